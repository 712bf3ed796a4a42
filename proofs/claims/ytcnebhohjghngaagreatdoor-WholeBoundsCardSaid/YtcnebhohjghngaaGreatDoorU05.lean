/- Texts Cb Cc Cd Ce of this proof, in this order. -/
import Derived.Test.YtcnebhohjghngaaGreatDoorU04
import Derived.ProofKit
import Derived.OpenShut
import Derived.ShutString
import Derived.ChangeOld
import Derived.Lib.SmallJoins
set_option linter.unusedVariables false
set_option linter.unusedSimpArgs false
set_option maxRecDepth 100000
set_option maxHeartbeats 4000000
namespace Go.Proofs.YtcnebhohjghngaaGreatDoor
open Go.RowKit Nt
theorem CL.mag {z:Int}{L:Nat}{n:Bool}{s:Value}{w:World}(h:CL z L w (.agg #[.bool n,s])):Can z.natAbs L w s:=by
 obtain⟨⟨s',he,h2⟩,h3⟩:=h;injection he with he;injection he with he;injection he with e1 he;injection he with e2 _;subst e2;exact⟨h2,h3⟩
def cmpQ (a b:Rat):Int:=(a-b).num.sign
theorem sign_mkRat {z:Int}{d:Nat}(hd:0<d):(mkRat z d).num.sign=z.sign:=by
 have h:=mkRat_lt (z:=z) hd;have h2:=Rat.mkRat_eq_zero (n:=z) (Nat.ne_of_gt hd);rcases Int.lt_trichotomy z 0 with h3|h3|h3
 ·rw[Int.sign_eq_neg_one_of_neg h3,Int.sign_eq_neg_one_of_neg];have:=h.2 h3;rw[←Rat.not_le,←Rat.num_nonneg]at this;omega
 ·rw[h3];simp
 ·rw[Int.sign_eq_one_of_pos h3,Int.sign_eq_one_of_pos];have h4:¬mkRat z d<0:=by rw[h];omega
  have h5:¬mkRat z d=0:=by rw[h2];omega
  rw[←Rat.num_eq_zero]at h5;rw[Rat.not_lt,←Rat.num_nonneg]at h4;omega
theorem cmpQ_rv (ba bb:Bool)(na da nb db:Nat):cmpQ (rv ba na da) (rv bb nb db)=(iv ba na*(un db:Nat)-iv bb nb*(un da:Nat)).sign:=by
 unfold cmpQ rv;rw[Rat.sub_eq_add_neg,Rat.neg_mkRat,Rat.mkRat_add_mkRat _ _ (un_ne _) (un_ne _),sign_mkRat (Nat.mul_pos (un_pos _) (un_pos _)),Int.neg_mul,←Int.sub_eq_add_neg]
theorem sgn_mul_un (z:Int)(d:Nat):(z*(un d:Nat)).sign=z.sign:=by
 have:=un_pos d;rw[Int.sign_mul,Int.sign_eq_one_of_pos (a:=((un d:Nat):Int)) (by omega),Int.mul_one]
theorem cross_lt {x y:Int}{c d:Nat}(h:x.sign<y.sign):(x*(un c:Nat)-y*(un d:Nat)).sign= -1:=sub_sign_lt (by rw[sgn_mul_un,sgn_mul_un];exact h)
theorem cross_gt {x y:Int}{c d:Nat}(h:y.sign<x.sign):(x*(un c:Nat)-y*(un d:Nat)).sign=1:=sub_sign_gt (by rw[sgn_mul_un,sgn_mul_un];exact h)
theorem CL.iv {z:Int}{L:Nat}{w:World}{b:Bool}{s:Value}(h:CL z L w (.agg #[.bool b,s])):Go.Proofs.YtcnebhohjghngaaGreatDoor.iv b z.natAbs=z:=by
 obtain⟨⟨s',he,h2⟩,h3⟩:=h;injection he with he;injection he with he;injection he with e1 he;injection e1 with e1;subst e1;unfold Go.Proofs.YtcnebhohjghngaaGreatDoor.iv
 by_cases hz:z<0<;>simp[hz]<;>omega
theorem add_parts {ba bb bs:Bool}{na da nb db:Nat}(h:iv bs (iv ba na*(un db:Nat)+iv bb nb*(un da:Nat)).natAbs=iv ba na*(un db:Nat)+iv bb nb*(un da:Nat)):
  mkRat (iv bs (iv ba na*(un db:Nat)+iv bb nb*(un da:Nat)).natAbs) (un da*un db)=rv ba na da+rv bb nb db:=by
 rw[h];unfold rv;rw[Rat.mkRat_add_mkRat _ _ (un_ne _) (un_ne _)]
theorem mul_parts (ba bb:Bool)(na da nb db:Nat):mkRat (iv (!ba==bb) (na*nb)) (un da*un db)=rv ba na da*rv bb nb db:=by
 rw[iv_mul];unfold rv;rw[Rat.mkRat_mul_mkRat]
theorem div_parts (ba bb:Bool)(na da nb db:Nat)(h:0<nb):mkRat (iv (!ba==bb) (na*un db)) (un da*nb)=rv ba na da/rv bb nb db:=by
 have e:rv bb nb db*mkRat (iv (!ba==bb) (na*un db)) (un da*nb)=rv ba na da:=by
  unfold rv;rw[Rat.mkRat_mul_mkRat];have e1:iv bb nb*iv (!ba==bb) (na*un db)=iv ba na*((un db*nb:Nat):Int):=by
   cases ba<;>cases bb<;>simp[iv,Int.natCast_mul,Int.neg_mul,Int.mul_neg]<;>ac_rfl
  rw[e1,show un db*(un da*nb)=un da*(un db*nb) by ac_rfl];exact Rat.mkRat_mul_right (Nat.ne_of_gt (Nat.mul_pos (un_pos _) h))
 have h0:rv bb nb db≠0:=by
  unfold rv;rw[Ne,Rat.mkRat_eq_zero (un_ne _)]
  cases bb<;>simp[iv]<;>omega
 rw[←e,Rat.mul_comm,Rat.mul_div_cancel h0]
theorem cmpQ_le {a b:Rat}:cmpQ a b≤0↔a≤b:=by
 unfold cmpQ;have e:b-a= -(a-b):=(Rat.neg_sub a b).symm;rw[Rat.le_iff_sub_nonneg,e,←Rat.num_nonneg,Rat.neg_num];rcases Int.lt_trichotomy (a-b).num 0 with h|h|h
 ·rw[Int.sign_eq_neg_one_of_neg h];omega
 ·rw[h];simp
 ·rw[Int.sign_eq_one_of_pos h];omega
theorem cmpQ_ge {a b:Rat}:0≤cmpQ a b↔b≤a:=by
 unfold cmpQ;rw[Rat.le_iff_sub_nonneg,←Rat.num_nonneg];rcases Int.lt_trichotomy (a-b).num 0 with h|h|h
 ·rw[Int.sign_eq_neg_one_of_neg h];omega
 ·rw[h];simp
 ·rw[Int.sign_eq_one_of_pos h];omega
theorem cross_p {L M:Nat}{ba:Bool}{na da:Nat}{sa ta:Value}{bb:Bool}{nb db:Nat}{sb tb:Value}{w:World}(hna:Is na L w sa)(hda:Is da L w ta)(hnb:Is nb M w sb)(hdb:Is db M w tb)(hL:L≤100000000)(hM:M≤100000000):
  Calls Tryz.prog 90 #[.agg #[.bool ba,sa,ta],.agg #[.bool bb,sb,tb]] w (Ret w (CL2 (iv ba na*(un db:Nat)) (iv bb nb*(un da:Nat)) (L+max M 1) (M+max L 1))):=by
 have Hna:=lH hna;have Hda:=lH hda;have Hnb:=lH hnb;have Hdb:=lH hdb;clear hna hda hnb hdb
 go_enter Tryz.func90,Tryz.ntmps90
 have HB:=lH (bR_ w.heap.size w)
 go_wp2_with fail
 obtain⟨W1,hW⟩:∃W1,W1=(World.alloc (World.alloc (World.alloc (World.alloc w (.cells #[.bool ba,sa,ta] 34)) (.cells #[.bool bb,sb,tb] 34)) (.cells #[.bool false,.slice none 0 0] 100)) (.cells #[.bool false,.slice none 0 0] 100)):=⟨_,rfl⟩;rw[←hW];obtain⟨xa0,xb0,xc0,xd0,hk,hb⟩:=boxes_4 _ _ _ _ _ _ _ _ _ hW;clear hW;have Hna:=lH (iK Hna.out hk);have Hda:=lH (iK Hda.out hk);have Hnb:=lH (iK Hnb.out hk);have Hdb:=lH (iK Hdb.out hk);have Ga0:=lH (show w.heap.size≤w.heap.size from tL_ HB.out.size (by omega));have Gb0:=lH (show w.heap.size≤w.heap.size+1 from tL_ HB.out.size (by omega));have Gc0:=lH (show w.heap.size≤w.heap.size+1+1 from tL_ HB.out.size (by omega));have Gd0:=lH (show w.heap.size≤w.heap.size+1+1+1 from tL_ HB.out.size (by omega));have Xa0:=lH xa0;have Xb0:=lH xb0;have Xc0:=lH xc0;have Xd0:=lH xd0;have HB:=lH (bC HB.out hb);clear hk hb xa0 xb0 xc0 xd0;have Hna:=lH (iK Hna.out (Keep.drew W1));have Hda:=lH (iK Hda.out (Keep.drew W1));have Hnb:=lH (iK Hnb.out (Keep.drew W1));have Hdb:=lH (iK Hdb.out (Keep.drew W1));have Xa0:=lH (Box.drew Xa0.out);have Xb0:=lH (Box.drew Xb0.out);have Xc0:=lH (Box.drew Xc0.out);have Xd0:=lH (Box.drew Xd0.out);have HB:=lH (Below.drew HB.out);refine wp_region_float [] [] (by kernel_rfl) (by kernel_rfl) 22 (by kernel_rfl) Flok.nil ?_;intro ok;have Hok:=lH ok;clear ok;have HG:=lH (bR_ (W1.drew).heap.size (W1.drew));refine good_pureX 0 (some 8) (Go.Op.load 34 (Go.Operand.tmp 2)) (none) (.agg #[.bool ba,sa,ta]) (by kernel_rfl) (by kernel_rfl) (by kernel_rfl) (fun _ _ _ h=>h) (fun w' hw'=> ?_) ?_
 ·obtain⟨ca00,ca01,ca02,fa00,fa01,fa02⟩:=(Box.se hw' Xa0.out notin0).c3
  first|(go_simp;done)|(go_simp;simp_all;done)|(go_simp;rfl)
 simp only[Act.put,sI,sZ,sS];refine good_pureX 2 (some 10) (Go.Op.load 34 (Go.Operand.tmp 3)) (none) (.agg #[.bool bb,sb,tb]) (by kernel_rfl) (by kernel_rfl) (by kernel_rfl) (fun _ _ _ h=>h) (fun w' hw'=> ?_) ?_
 ·obtain⟨cb00,cb01,cb02,fb00,fb01,fb02⟩:=(Box.se hw' Xb0.out notin0).c3
  first|(go_simp;done)|(go_simp;simp_all;done)|(go_simp;rfl)
 simp only[Act.put,sI,sZ,sS];refine good_callX 1 121 (some 9) #[Go.Operand.tmp 8] #[34] (none) #[.agg #[.bool ba,sa,ta]] (by kernel_rfl) Hok.out (by kernel_rfl) (by kernel_rfl) (by kernel_rfl) (by kernel_rfl) rfl rfl rfl (by kernel_rfl) (fun w2 hb=> ?_);have HG:=lH (bC HG.out hb);clear hb
 (first|(have hcall:=under_is (b:=ba) (iK Hda.out (kC HG.out)) (by omega);refine cM hcall ?_;clear hcall)|refine cM (under_is (b:=ba) (iK Hda.out (kC HG.out)) (by omega)) ?_)
 rintro e w3 ⟨v3,rfl,hp,hb⟩;obtain⟨p_a,p_n,p_c,rfl⟩:=hp.lit;refine⟨_,rfl,?_,hb⟩;have HG:=lH (bC HG.out hb);have Hp:=lH hp;clear hb hp;simp only[Act.put,sI,sZ,sS];refine good_callX 3 121 (some 11) #[Go.Operand.tmp 10] #[34] (none) #[.agg #[.bool bb,sb,tb]] (by kernel_rfl) Hok.out (by kernel_rfl) (by kernel_rfl) (by kernel_rfl) (by kernel_rfl) rfl rfl rfl (by kernel_rfl) (fun w4 hb=> ?_);have Hp:=lH (iK Hp.out (kC hb));have HG:=lH (bC HG.out hb);clear hb
 (first|(have hcall:=under_is (b:=bb) (iK Hdb.out (kC HG.out)) (by omega);refine cM hcall ?_;clear hcall)|refine cM (under_is (b:=bb) (iK Hdb.out (kC HG.out)) (by omega)) ?_)
 rintro e w5 ⟨v5,rfl,hq,hb⟩;obtain⟨q_a,q_n,q_c,rfl⟩:=hq.lit;refine⟨_,rfl,?_,hb⟩;have Hp:=lH (iK Hp.out (kC hb));have HG:=lH (bC HG.out hb);have Hq:=lH hq;clear hb hq;simp only[Act.put,sI,sZ,sS];refine good_pureX 4 (some 6) (Go.Op.assign (Go.Operand.tmp 9)) (none) (.slice p_a p_n p_c) (by kernel_rfl) (by kernel_rfl) (by kernel_rfl) (fun _ _ _ h=>h) (fun w' hw'=> ?_) ?_
 ·first|(go_simp;done)|(go_simp;simp_all;done)|(go_simp;rfl)
 simp only[Act.put,sI,sZ,sS];refine good_pureX 5 (some 7) (Go.Op.assign (Go.Operand.tmp 11)) (none) (.slice q_a q_n q_c) (by kernel_rfl) (by kernel_rfl) (by kernel_rfl) (fun _ _ _ h=>h) (fun w' hw'=> ?_) ?_
 ·first|(go_simp;done)|(go_simp;simp_all;done)|(go_simp;rfl)
 simp only[Act.put,sI,sZ,sS];refine good_end0 0 (by kernel_rfl) (fun _ w6 hb=> ?_);have Hp:=lH (iK Hp.out (kC hb));have Hq:=lH (iK Hq.out (kC hb));have HG:=lH (bC HG.out hb);clear hb;have Hna:=lH (iK Hna.out (kC HG.out));have Hnb:=lH (iK Hnb.out (kC HG.out));have Xa0:=lH (xP HG.out Xa0.out);have Xb0:=lH (xP HG.out Xb0.out);have Xc0:=lH (xP HG.out Xc0.out);have Xd0:=lH (xP HG.out Xd0.out);have HB:=lH (bC HB.out HG.out);have HS:=lH (SE.of (E:=[]) HG.out);refine wpAnyH_done (by kernel_rfl) ?_ _;clear HG HS Hok;obtain⟨ca00,ca01,ca02,fa00,fa01,fa02⟩:=Xa0.out.c3;have la0:=Xa0.out.lt;obtain⟨cb00,cb01,cb02,fb00,fb01,fb02⟩:=Xb0.out.c3;have lb0:=Xb0.out.lt;obtain⟨cc00,cc01,fc00,fc01⟩:=Xc0.out.c2;have lc0:=Xc0.out.lt;obtain⟨cd00,cd01,fd00,fd01⟩:=Xd0.out.c2;have ld0:=Xd0.out.lt
 go_wp2_with fail
 clear ca00 ca01 ca02 fa00 fa01 fa02 la0 cb00 cb01 cb02 fb00 fb01 fb02 lb0 cc00 cc01 fc00 fc01 lc0 cd00 cd01 fd00 fd01 ld0;have Hna:=lH (iK Hna.out (Keep.drew w6));have Hnb:=lH (iK Hnb.out (Keep.drew w6));have Hp:=lH (iK Hp.out (Keep.drew w6));have Hq:=lH (iK Hq.out (Keep.drew w6));have Xa0:=lH (Box.drew Xa0.out);have Xb0:=lH (Box.drew Xb0.out);have Xc0:=lH (Box.drew Xc0.out);have Xd0:=lH (Box.drew Xd0.out);have HB:=lH (Below.drew HB.out);refine wp_region_float [w.heap.size+1+1,w.heap.size+1+1+1] [] (by kernel_rfl) (by kernel_rfl) 22 (by kernel_rfl) Flok.nil ?_;intro ok;have Hok:=lH ok;clear ok;have HG:=lH (bR_ (w6.drew).heap.size (w6.drew));refine good_pureX 0 (some 12) (Go.Op.load 34 (Go.Operand.tmp 2)) (none) (.agg #[.bool ba,sa,ta]) (by kernel_rfl) (by kernel_rfl) (by kernel_rfl) (fun _ _ _ h=>h) (fun w' hw'=> ?_) ?_
 ·obtain⟨ca00,ca01,ca02,fa00,fa01,fa02⟩:=(Box.se hw' Xa0.out (notin2 (by omega) (by omega))).c3
  first|(go_simp;done)|(go_simp;simp_all;done)|(go_simp;rfl)
 simp only[Act.put,sI,sZ,sS];refine good_pureX 2 (some 14) (Go.Op.move (Go.Operand.tmp 7)) (none) (.slice q_a q_n q_c) (by kernel_rfl) (by kernel_rfl) (by kernel_rfl) (fun _ _ _ h=>h) (fun w' hw'=> ?_) ?_
 ·first|(go_simp;done)|(go_simp;simp_all;done)|(go_simp;rfl)
 simp only[Act.put,sI,sZ,sS];refine good_pureX 3 (some 15) (Go.Op.build 100 #[(1,Go.Operand.tmp 14)]) (none) (.agg #[.bool false,.slice q_a q_n q_c]) (by kernel_rfl) (by kernel_rfl) (by kernel_rfl) (fun _ _ _ h=>h) (fun w' hw'=> ?_) ?_
 ·first|(go_simp;done)|(go_simp;simp_all;done)|(go_simp;rfl)
 simp only[Act.put,sI,sZ,sS];refine good_pureX 5 (some 17) (Go.Op.load 34 (Go.Operand.tmp 3)) (none) (.agg #[.bool bb,sb,tb]) (by kernel_rfl) (by kernel_rfl) (by kernel_rfl) (fun _ _ _ h=>h) (fun w' hw'=> ?_) ?_
 ·obtain⟨cb00,cb01,cb02,fb00,fb01,fb02⟩:=(Box.se hw' Xb0.out (notin2 (by omega) (by omega))).c3
  first|(go_simp;done)|(go_simp;simp_all;done)|(go_simp;rfl)
 simp only[Act.put,sI,sZ,sS];refine good_pureX 7 (some 19) (Go.Op.move (Go.Operand.tmp 6)) (none) (.slice p_a p_n p_c) (by kernel_rfl) (by kernel_rfl) (by kernel_rfl) (fun _ _ _ h=>h) (fun w' hw'=> ?_) ?_
 ·first|(go_simp;done)|(go_simp;simp_all;done)|(go_simp;rfl)
 simp only[Act.put,sI,sZ,sS];refine good_pureX 8 (some 20) (Go.Op.build 100 #[(1,Go.Operand.tmp 19)]) (none) (.agg #[.bool false,.slice p_a p_n p_c]) (by kernel_rfl) (by kernel_rfl) (by kernel_rfl) (fun _ _ _ h=>h) (fun w' hw'=> ?_) ?_
 ·first|(go_simp;done)|(go_simp;simp_all;done)|(go_simp;rfl)
 simp only[Act.put,sI,sZ,sS];refine good_callX 1 114 (some 13) #[Go.Operand.tmp 12] #[34] (none) #[.agg #[.bool ba,sa,ta]] (by kernel_rfl) Hok.out (by kernel_rfl) (by kernel_rfl) (by kernel_rfl) (by kernel_rfl) rfl rfl rfl (by kernel_rfl) (fun w7 hb=> ?_);have HG:=lH (bC HG.out hb);clear hb
 (first|(have hcall:=signed_is (neg:=ba) (iK Hna.out (kC HG.out));refine cM hcall ?_;clear hcall)|refine cM (signed_is (neg:=ba) (iK Hna.out (kC HG.out))) ?_)
 rintro e w8 ⟨v8,rfl,hx,hb⟩;obtain⟨x_b,x_a,x_n,x_c,rfl⟩:=hx.litb;refine⟨_,rfl,?_,hb⟩;have HG:=lH (bC HG.out hb);have Hx:=lH hx;clear hb hx;simp only[Act.put,sI,sZ,sS];refine good_callX 4 124 (some 16) #[Go.Operand.tmp 13,Go.Operand.tmp 15] #[100,100] (none) #[.agg #[.bool x_b,.slice x_a x_n x_c],.agg #[.bool false,.slice q_a q_n q_c]] (by kernel_rfl) Hok.out (by kernel_rfl) (by kernel_rfl) (by kernel_rfl) (by kernel_rfl) rfl rfl rfl (by kernel_rfl) (fun w9 hb=> ?_);have Hx:=lH (CL.keep Hx.out (kC hb));have HG:=lH (bC HG.out hb);clear hb
 (first|(have hcall:=imul_ai Hx.out.ai (AI.mk (n:=false) (iK Hq.out (kC HG.out))) (by omega) (by omega);refine cM hcall ?_;clear hcall)|refine cM (imul_ai Hx.out.ai (AI.mk (n:=false) (iK Hq.out (kC HG.out))) (by omega) (by omega)) ?_)
 rintro e w10 ⟨v10,rfl,hm,hb⟩;obtain⟨m_b,m_a,m_n,m_c,rfl⟩:=hm.litb;refine⟨_,rfl,?_,hb⟩;have HG:=lH (bC HG.out hb);have Hm:=lH hm;clear hb hm;simp only[Act.put,sI,sZ,sS];refine good_callX 6 114 (some 18) #[Go.Operand.tmp 17] #[34] (none) #[.agg #[.bool bb,sb,tb]] (by kernel_rfl) Hok.out (by kernel_rfl) (by kernel_rfl) (by kernel_rfl) (by kernel_rfl) rfl rfl rfl (by kernel_rfl) (fun w11 hb=> ?_);have Hm:=lH (CL.keep Hm.out (kC hb));have HG:=lH (bC HG.out hb);clear hb
 (first|(have hcall:=signed_is (neg:=bb) (iK Hnb.out (kC HG.out));refine cM hcall ?_;clear hcall)|refine cM (signed_is (neg:=bb) (iK Hnb.out (kC HG.out))) ?_)
 rintro e w12 ⟨v12,rfl,hv,hb⟩;obtain⟨v_b,v_a,v_n,v_c,rfl⟩:=hv.litb;refine⟨_,rfl,?_,hb⟩;have Hm:=lH (CL.keep Hm.out (kC hb));have HG:=lH (bC HG.out hb);have Hv:=lH hv;clear hb hv;simp only[Act.put,sI,sZ,sS];refine good_callX 9 124 (some 21) #[Go.Operand.tmp 18,Go.Operand.tmp 20] #[100,100] (none) #[.agg #[.bool v_b,.slice v_a v_n v_c],.agg #[.bool false,.slice p_a p_n p_c]] (by kernel_rfl) Hok.out (by kernel_rfl) (by kernel_rfl) (by kernel_rfl) (by kernel_rfl) rfl rfl rfl (by kernel_rfl) (fun w13 hb=> ?_);have Hm:=lH (CL.keep Hm.out (kC hb));have Hv:=lH (CL.keep Hv.out (kC hb));have HG:=lH (bC HG.out hb);clear hb
 (first|(have hcall:=imul_ai Hv.out.ai (AI.mk (n:=false) (iK Hp.out (kC HG.out))) (by omega) (by omega);refine cM hcall ?_;clear hcall)|refine cM (imul_ai Hv.out.ai (AI.mk (n:=false) (iK Hp.out (kC HG.out))) (by omega) (by omega)) ?_)
 rintro e w14 ⟨v14,rfl,hn,hb⟩;obtain⟨n_b,n_a,n_n,n_c,rfl⟩:=hn.litb;refine⟨_,rfl,?_,hb⟩;have Hm:=lH (CL.keep Hm.out (kC hb));have HG:=lH (bC HG.out hb);have Hn:=lH hn;clear hb hn;simp only[Act.put,sI,sZ,sS];refine good_end0 2 (by kernel_rfl) (fun _ w15 hb=> ?_);have Hm:=lH (CL.keep Hm.out (kC hb));have Hn:=lH (CL.keep Hn.out (kC hb));have HG:=lH (bC HG.out hb);clear hb;have Xa0:=lH (xP HG.out Xa0.out);have Xb0:=lH (xP HG.out Xb0.out);have Xc0:=lH (xP HG.out Xc0.out);have Xd0:=lH (xP HG.out Xd0.out);have HB:=lH (bC HB.out HG.out);have HS:=lH (SE.of (E:=[w.heap.size+1+1,w.heap.size+1+1+1]) HG.out);refine held_oneX 10 (Go.Op.store 100 (Go.Operand.tmp 4) (Go.Operand.tmp 16)) (none) (World.setCell (World.setCell w15 ⟨w.heap.size+1+1,0,none⟩ (.bool m_b)) ⟨w.heap.size+1+1,1,none⟩ (.slice m_a m_n m_c)) (by kernel_rfl) (by kernel_rfl) (by kernel_rfl) (by kernel_rfl) ?_ (HS.out.store2 in21) ?_
 ·obtain⟨cc00,cc01,fc00,fc01⟩:=Xc0.out.c2
  first|(go_simp;done)|(go_simp;simp_all;done)|(go_simp;rfl)
 obtain⟨W16,hW⟩:∃W16,W16=(World.setCell (World.setCell w15 ⟨w.heap.size+1+1,0,none⟩ (.bool m_b)) ⟨w.heap.size+1+1,1,none⟩ (.slice m_a m_n m_c)):=⟨_,rfl⟩;rw[←hW];obtain⟨xc0,hk,hf,hbb,hz⟩:=stored2s hW Xc0.out (by first|exact nB_ _|exact nS_ _ _ _) (by first|exact nB_ _|exact nS_ _ _ _);have Hm:=lH (CL.keep Hm.out hk);have Hn:=lH (CL.keep Hn.out hk);have Xa0:=lH (hf _ _ _ Xa0.out (by omega));have Xb0:=lH (hf _ _ _ Xb0.out (by omega));have Xc0:=lH xc0;have Xd0:=lH (hf _ _ _ Xd0.out (by omega));have HB:=lH (hbb _ HB.out Gc0.out);have HS:=lH (show SE (w6.drew) [w.heap.size+1+1,w.heap.size+1+1+1] W16 from by rw[hW];exact HS.out.store2 in21);clear hW hk hf hbb xc0;clear hz;refine held_oneX 11 (Go.Op.store 100 (Go.Operand.tmp 5) (Go.Operand.tmp 21)) (none) (World.setCell (World.setCell W16 ⟨w.heap.size+1+1+1,0,none⟩ (.bool n_b)) ⟨w.heap.size+1+1+1,1,none⟩ (.slice n_a n_n n_c)) (by kernel_rfl) (by kernel_rfl) (by kernel_rfl) (by kernel_rfl) ?_ (HS.out.store2 in22) ?_
 ·obtain⟨cd00,cd01,fd00,fd01⟩:=Xd0.out.c2
  first|(go_simp;done)|(go_simp;simp_all;done)|(go_simp;rfl)
 obtain⟨W17,hW⟩:∃W17,W17=(World.setCell (World.setCell W16 ⟨w.heap.size+1+1+1,0,none⟩ (.bool n_b)) ⟨w.heap.size+1+1+1,1,none⟩ (.slice n_a n_n n_c)):=⟨_,rfl⟩;rw[←hW];obtain⟨xd0,hk,hf,hbb,hz⟩:=stored2s hW Xd0.out (by first|exact nB_ _|exact nS_ _ _ _) (by first|exact nB_ _|exact nS_ _ _ _);have Hm:=lH (CL.keep Hm.out hk);have Hn:=lH (CL.keep Hn.out hk);have Xa0:=lH (hf _ _ _ Xa0.out (by omega));have Xb0:=lH (hf _ _ _ Xb0.out (by omega));have Xc0:=lH (hf _ _ _ Xc0.out (by omega));have Xd0:=lH xd0;have HB:=lH (hbb _ HB.out Gd0.out);have HS:=lH (show SE (w6.drew) [w.heap.size+1+1,w.heap.size+1+1+1] W17 from by rw[hW];exact HS.out.store2 in22);clear hW hk hf hbb xd0;clear hz;refine wpAnyH_done (by kernel_rfl) ?_ _;clear HG HS Hok;obtain⟨ca00,ca01,ca02,fa00,fa01,fa02⟩:=Xa0.out.c3;have la0:=Xa0.out.lt;obtain⟨cb00,cb01,cb02,fb00,fb01,fb02⟩:=Xb0.out.c3;have lb0:=Xb0.out.lt;obtain⟨cc00,cc01,fc00,fc01⟩:=Xc0.out.c2;have lc0:=Xc0.out.lt;obtain⟨cd00,cd01,fd00,fd01⟩:=Xd0.out.c2;have ld0:=Xd0.out.lt;go_wp2;clear ca00 ca01 ca02 fa00 fa01 fa02 la0 cb00 cb01 cb02 fb00 fb01 fb02 lb0 cc00 cc01 fc00 fc01 lc0 cd00 cd01 fd00 fd01 ld0;exact ret_ii rfl rfl rfl rfl Xc0.out Xd0.out ⟨_,_,rfl,Hm.out,Hn.out⟩ HB.out
theorem rcmp_lt {L M:Nat}{ba:Bool}{na da:Nat}{sa ta:Value}{bb:Bool}{nb db:Nat}{sb tb:Value}{w:World}(s t:Int)(hs:(iv ba na).sign=s)(ht:(iv bb nb).sign=t)(d1:(s !=t)=true)(d2:decide (s<t)=true)(hna:Is na L w sa)(hda:Is da L w ta)(hnb:Is nb M w sb)(hdb:Is db M w tb)(hL:L≤100000000)(hM:M≤100000000):
  Calls Tryz.prog 56 #[.agg #[.bool ba,sa,ta],.agg #[.bool bb,sb,tb]] w (Ret w (Val (.int .i64 (-1)))):=by
 have Hna:=lH hna;have Hda:=lH hda;have Hnb:=lH hnb;have Hdb:=lH hdb;have Hs:=lH hs;have Ht:=lH ht;clear hna hda hnb hdb hs ht
 go_enter Tryz.func56,Tryz.ntmps56
 have HB:=lH (bR_ w.heap.size w)
 go_wp2_with fail
 obtain⟨W1,hW⟩:∃W1,W1=(World.alloc (World.alloc w (.cells #[.bool ba,sa,ta] 34)) (.cells #[.bool bb,sb,tb] 34)):=⟨_,rfl⟩;rw[←hW];obtain⟨xa0,xb0,hk,hb⟩:=boxes_2 _ _ _ _ _ hW;clear hW;have Hna:=lH (iK Hna.out hk);have Hda:=lH (iK Hda.out hk);have Hnb:=lH (iK Hnb.out hk);have Hdb:=lH (iK Hdb.out hk);have Ga0:=lH (show w.heap.size≤w.heap.size from tL_ HB.out.size (by omega));have Gb0:=lH (show w.heap.size≤w.heap.size+1 from tL_ HB.out.size (by omega));have Xa0:=lH xa0;have Xb0:=lH xb0;have HB:=lH (bC HB.out hb);clear hk hb xa0 xb0;have Hna:=lH (iK Hna.out (Keep.drew W1));have Hda:=lH (iK Hda.out (Keep.drew W1));have Hnb:=lH (iK Hnb.out (Keep.drew W1));have Hdb:=lH (iK Hdb.out (Keep.drew W1));have Xa0:=lH (Box.drew Xa0.out);have Xb0:=lH (Box.drew Xb0.out);have HB:=lH (Below.drew HB.out);refine wp_region_float [] [] (by kernel_rfl) (by kernel_rfl) 28 (by kernel_rfl) Flok.nil ?_;intro ok;have Hok:=lH ok;clear ok;have HG:=lH (bR_ (W1.drew).heap.size (W1.drew));refine good_pureX 0 (some 9) (Go.Op.load 34 (Go.Operand.tmp 2)) (none) (.agg #[.bool ba,sa,ta]) (by kernel_rfl) (by kernel_rfl) (by kernel_rfl) (fun _ _ _ h=>h) (fun w' hw'=> ?_) ?_
 ·obtain⟨ca00,ca01,ca02,fa00,fa01,fa02⟩:=(Box.se hw' Xa0.out notin0).c3
  first|(go_simp;done)|(go_simp;simp_all;done)|(go_simp;rfl)
 simp only[Act.put,sI,sZ,sS];refine good_pureX 2 (some 11) (Go.Op.load 34 (Go.Operand.tmp 3)) (none) (.agg #[.bool bb,sb,tb]) (by kernel_rfl) (by kernel_rfl) (by kernel_rfl) (fun _ _ _ h=>h) (fun w' hw'=> ?_) ?_
 ·obtain⟨cb00,cb01,cb02,fb00,fb01,fb02⟩:=(Box.se hw' Xb0.out notin0).c3
  first|(go_simp;done)|(go_simp;simp_all;done)|(go_simp;rfl)
 simp only[Act.put,sI,sZ,sS];refine good_callX 1 80 (some 10) #[Go.Operand.tmp 9] #[34] (none) #[.agg #[.bool ba,sa,ta]] (by kernel_rfl) Hok.out (by kernel_rfl) (by kernel_rfl) (by kernel_rfl) (by kernel_rfl) rfl rfl rfl (by kernel_rfl) (fun w2 hb=> ?_);have HG:=lH (bC HG.out hb);clear hb
 (first|(have hcall:=rsign_p (ba:=ba) s Hs.out (iK Hna.out (kC HG.out)) (iK Hda.out (kC HG.out)) (by omega);refine cM hcall ?_;clear hcall)|refine cM (rsign_p (ba:=ba) s Hs.out (iK Hna.out (kC HG.out)) (iK Hda.out (kC HG.out)) (by omega)) ?_)
 rintro e w3 ⟨v3,rfl,rfl,hb⟩;refine⟨_,rfl,?_,hb⟩;have HG:=lH (bC HG.out hb);clear hb;simp only[Act.put,sI,sZ,sS];refine good_callX 3 80 (some 12) #[Go.Operand.tmp 11] #[34] (none) #[.agg #[.bool bb,sb,tb]] (by kernel_rfl) Hok.out (by kernel_rfl) (by kernel_rfl) (by kernel_rfl) (by kernel_rfl) rfl rfl rfl (by kernel_rfl) (fun w4 hb=> ?_);have HG:=lH (bC HG.out hb);clear hb
 (first|(have hcall:=rsign_p (ba:=bb) t Ht.out (iK Hnb.out (kC HG.out)) (iK Hdb.out (kC HG.out)) (by omega);refine cM hcall ?_;clear hcall)|refine cM (rsign_p (ba:=bb) t Ht.out (iK Hnb.out (kC HG.out)) (iK Hdb.out (kC HG.out)) (by omega)) ?_)
 rintro e w5 ⟨v5,rfl,rfl,hb⟩;refine⟨_,rfl,?_,hb⟩;have HG:=lH (bC HG.out hb);clear hb;simp only[Act.put,sI,sZ,sS];refine good_pureX 4 (some 5) (Go.Op.assign (Go.Operand.tmp 10)) (none) (.int .i64 s) (by kernel_rfl) (by kernel_rfl) (by kernel_rfl) (fun _ _ _ h=>h) (fun w' hw'=> ?_) ?_
 ·first|(go_simp;done)|(go_simp;simp_all;done)|(go_simp;rfl)
 simp only[Act.put,sI,sZ,sS];refine good_pureX 5 (some 6) (Go.Op.assign (Go.Operand.tmp 12)) (none) (.int .i64 t) (by kernel_rfl) (by kernel_rfl) (by kernel_rfl) (fun _ _ _ h=>h) (fun w' hw'=> ?_) ?_
 ·first|(go_simp;done)|(go_simp;simp_all;done)|(go_simp;rfl)
 simp only[Act.put,sI,sZ,sS];refine good_end0 0 (by kernel_rfl) (fun _ w6 hb=> ?_);have HG:=lH (bC HG.out hb);clear hb;have Xa0:=lH (xP HG.out Xa0.out);have Xb0:=lH (xP HG.out Xb0.out);have HB:=lH (bC HB.out HG.out);have HS:=lH (SE.of (E:=[]) HG.out);refine wpAnyH_done (by kernel_rfl) ?_ _;clear HG HS Hok;obtain⟨ca00,ca01,ca02,fa00,fa01,fa02⟩:=Xa0.out.c3;have la0:=Xa0.out.lt;obtain⟨cb00,cb01,cb02,fb00,fb01,fb02⟩:=Xb0.out.c3;have lb0:=Xb0.out.lt;go_wp2;clear ca00 ca01 ca02 fa00 fa01 fa02 la0 cb00 cb01 cb02 fb00 fb01 fb02 lb0
 go_ret
 exact⟨_,rfl,rfl,HB.out⟩
theorem rcmp_gt {L M:Nat}{ba:Bool}{na da:Nat}{sa ta:Value}{bb:Bool}{nb db:Nat}{sb tb:Value}{w:World}(s t:Int)(hs:(iv ba na).sign=s)(ht:(iv bb nb).sign=t)(d1:(s !=t)=true)(d2:decide (s<t)=false)(hna:Is na L w sa)(hda:Is da L w ta)(hnb:Is nb M w sb)(hdb:Is db M w tb)(hL:L≤100000000)(hM:M≤100000000):
  Calls Tryz.prog 56 #[.agg #[.bool ba,sa,ta],.agg #[.bool bb,sb,tb]] w (Ret w (Val (.int .i64 1))):=by
 have Hna:=lH hna;have Hda:=lH hda;have Hnb:=lH hnb;have Hdb:=lH hdb;have Hs:=lH hs;have Ht:=lH ht;clear hna hda hnb hdb hs ht
 go_enter Tryz.func56,Tryz.ntmps56
 have HB:=lH (bR_ w.heap.size w)
 go_wp2_with fail
 obtain⟨W1,hW⟩:∃W1,W1=(World.alloc (World.alloc w (.cells #[.bool ba,sa,ta] 34)) (.cells #[.bool bb,sb,tb] 34)):=⟨_,rfl⟩;rw[←hW];obtain⟨xa0,xb0,hk,hb⟩:=boxes_2 _ _ _ _ _ hW;clear hW;have Hna:=lH (iK Hna.out hk);have Hda:=lH (iK Hda.out hk);have Hnb:=lH (iK Hnb.out hk);have Hdb:=lH (iK Hdb.out hk);have Ga0:=lH (show w.heap.size≤w.heap.size from tL_ HB.out.size (by omega));have Gb0:=lH (show w.heap.size≤w.heap.size+1 from tL_ HB.out.size (by omega));have Xa0:=lH xa0;have Xb0:=lH xb0;have HB:=lH (bC HB.out hb);clear hk hb xa0 xb0;have Hna:=lH (iK Hna.out (Keep.drew W1));have Hda:=lH (iK Hda.out (Keep.drew W1));have Hnb:=lH (iK Hnb.out (Keep.drew W1));have Hdb:=lH (iK Hdb.out (Keep.drew W1));have Xa0:=lH (Box.drew Xa0.out);have Xb0:=lH (Box.drew Xb0.out);have HB:=lH (Below.drew HB.out);refine wp_region_float [] [] (by kernel_rfl) (by kernel_rfl) 28 (by kernel_rfl) Flok.nil ?_;intro ok;have Hok:=lH ok;clear ok;have HG:=lH (bR_ (W1.drew).heap.size (W1.drew));refine good_pureX 0 (some 9) (Go.Op.load 34 (Go.Operand.tmp 2)) (none) (.agg #[.bool ba,sa,ta]) (by kernel_rfl) (by kernel_rfl) (by kernel_rfl) (fun _ _ _ h=>h) (fun w' hw'=> ?_) ?_
 ·obtain⟨ca00,ca01,ca02,fa00,fa01,fa02⟩:=(Box.se hw' Xa0.out notin0).c3
  first|(go_simp;done)|(go_simp;simp_all;done)|(go_simp;rfl)
 simp only[Act.put,sI,sZ,sS];refine good_pureX 2 (some 11) (Go.Op.load 34 (Go.Operand.tmp 3)) (none) (.agg #[.bool bb,sb,tb]) (by kernel_rfl) (by kernel_rfl) (by kernel_rfl) (fun _ _ _ h=>h) (fun w' hw'=> ?_) ?_
 ·obtain⟨cb00,cb01,cb02,fb00,fb01,fb02⟩:=(Box.se hw' Xb0.out notin0).c3
  first|(go_simp;done)|(go_simp;simp_all;done)|(go_simp;rfl)
 simp only[Act.put,sI,sZ,sS];refine good_callX 1 80 (some 10) #[Go.Operand.tmp 9] #[34] (none) #[.agg #[.bool ba,sa,ta]] (by kernel_rfl) Hok.out (by kernel_rfl) (by kernel_rfl) (by kernel_rfl) (by kernel_rfl) rfl rfl rfl (by kernel_rfl) (fun w2 hb=> ?_);have HG:=lH (bC HG.out hb);clear hb
 (first|(have hcall:=rsign_p (ba:=ba) s Hs.out (iK Hna.out (kC HG.out)) (iK Hda.out (kC HG.out)) (by omega);refine cM hcall ?_;clear hcall)|refine cM (rsign_p (ba:=ba) s Hs.out (iK Hna.out (kC HG.out)) (iK Hda.out (kC HG.out)) (by omega)) ?_)
 rintro e w3 ⟨v3,rfl,rfl,hb⟩;refine⟨_,rfl,?_,hb⟩;have HG:=lH (bC HG.out hb);clear hb;simp only[Act.put,sI,sZ,sS];refine good_callX 3 80 (some 12) #[Go.Operand.tmp 11] #[34] (none) #[.agg #[.bool bb,sb,tb]] (by kernel_rfl) Hok.out (by kernel_rfl) (by kernel_rfl) (by kernel_rfl) (by kernel_rfl) rfl rfl rfl (by kernel_rfl) (fun w4 hb=> ?_);have HG:=lH (bC HG.out hb);clear hb
 (first|(have hcall:=rsign_p (ba:=bb) t Ht.out (iK Hnb.out (kC HG.out)) (iK Hdb.out (kC HG.out)) (by omega);refine cM hcall ?_;clear hcall)|refine cM (rsign_p (ba:=bb) t Ht.out (iK Hnb.out (kC HG.out)) (iK Hdb.out (kC HG.out)) (by omega)) ?_)
 rintro e w5 ⟨v5,rfl,rfl,hb⟩;refine⟨_,rfl,?_,hb⟩;have HG:=lH (bC HG.out hb);clear hb;simp only[Act.put,sI,sZ,sS];refine good_pureX 4 (some 5) (Go.Op.assign (Go.Operand.tmp 10)) (none) (.int .i64 s) (by kernel_rfl) (by kernel_rfl) (by kernel_rfl) (fun _ _ _ h=>h) (fun w' hw'=> ?_) ?_
 ·first|(go_simp;done)|(go_simp;simp_all;done)|(go_simp;rfl)
 simp only[Act.put,sI,sZ,sS];refine good_pureX 5 (some 6) (Go.Op.assign (Go.Operand.tmp 12)) (none) (.int .i64 t) (by kernel_rfl) (by kernel_rfl) (by kernel_rfl) (fun _ _ _ h=>h) (fun w' hw'=> ?_) ?_
 ·first|(go_simp;done)|(go_simp;simp_all;done)|(go_simp;rfl)
 simp only[Act.put,sI,sZ,sS];refine good_end0 0 (by kernel_rfl) (fun _ w6 hb=> ?_);have HG:=lH (bC HG.out hb);clear hb;have Xa0:=lH (xP HG.out Xa0.out);have Xb0:=lH (xP HG.out Xb0.out);have HB:=lH (bC HB.out HG.out);have HS:=lH (SE.of (E:=[]) HG.out);refine wpAnyH_done (by kernel_rfl) ?_ _;clear HG HS Hok;obtain⟨ca00,ca01,ca02,fa00,fa01,fa02⟩:=Xa0.out.c3;have la0:=Xa0.out.lt;obtain⟨cb00,cb01,cb02,fb00,fb01,fb02⟩:=Xb0.out.c3;have lb0:=Xb0.out.lt;go_wp2;clear ca00 ca01 ca02 fa00 fa01 fa02 la0 cb00 cb01 cb02 fb00 fb01 fb02 lb0
 go_ret
 exact⟨_,rfl,rfl,HB.out⟩
theorem rcmp_eq {L M:Nat}{ba:Bool}{na da:Nat}{sa ta:Value}{bb:Bool}{nb db:Nat}{sb tb:Value}{w:World}(s k:Int)(hs:(iv ba na).sign=s)(ht:(iv bb nb).sign=s)(hk:(iv ba na*(un db:Nat)-iv bb nb*(un da:Nat)).sign=k)(hna:Is na L w sa)(hda:Is da L w ta)(hnb:Is nb M w sb)(hdb:Is db M w tb)(hL:L≤100000000)(hM:M≤100000000):
  Calls Tryz.prog 56 #[.agg #[.bool ba,sa,ta],.agg #[.bool bb,sb,tb]] w (Ret w (Val (.int .i64 k))):=by
 have Hna:=lH hna;have Hda:=lH hda;have Hnb:=lH hnb;have Hdb:=lH hdb;have Hs:=lH hs;have Ht:=lH ht;have Hk:=lH hk;clear hna hda hnb hdb hs ht hk
 go_enter Tryz.func56,Tryz.ntmps56
 have HB:=lH (bR_ w.heap.size w)
 go_wp2_with fail
 obtain⟨W1,hW⟩:∃W1,W1=(World.alloc (World.alloc w (.cells #[.bool ba,sa,ta] 34)) (.cells #[.bool bb,sb,tb] 34)):=⟨_,rfl⟩;rw[←hW];obtain⟨xa0,xb0,hk,hb⟩:=boxes_2 _ _ _ _ _ hW;clear hW;have Hna:=lH (iK Hna.out hk);have Hda:=lH (iK Hda.out hk);have Hnb:=lH (iK Hnb.out hk);have Hdb:=lH (iK Hdb.out hk);have Ga0:=lH (show w.heap.size≤w.heap.size from tL_ HB.out.size (by omega));have Gb0:=lH (show w.heap.size≤w.heap.size+1 from tL_ HB.out.size (by omega));have Xa0:=lH xa0;have Xb0:=lH xb0;have HB:=lH (bC HB.out hb);clear hk hb xa0 xb0;have Hna:=lH (iK Hna.out (Keep.drew W1));have Hda:=lH (iK Hda.out (Keep.drew W1));have Hnb:=lH (iK Hnb.out (Keep.drew W1));have Hdb:=lH (iK Hdb.out (Keep.drew W1));have Xa0:=lH (Box.drew Xa0.out);have Xb0:=lH (Box.drew Xb0.out);have HB:=lH (Below.drew HB.out);refine wp_region_float [] [] (by kernel_rfl) (by kernel_rfl) 28 (by kernel_rfl) Flok.nil ?_;intro ok;have Hok:=lH ok;clear ok;have HG:=lH (bR_ (W1.drew).heap.size (W1.drew));refine good_pureX 0 (some 9) (Go.Op.load 34 (Go.Operand.tmp 2)) (none) (.agg #[.bool ba,sa,ta]) (by kernel_rfl) (by kernel_rfl) (by kernel_rfl) (fun _ _ _ h=>h) (fun w' hw'=> ?_) ?_
 ·obtain⟨ca00,ca01,ca02,fa00,fa01,fa02⟩:=(Box.se hw' Xa0.out notin0).c3
  first|(go_simp;done)|(go_simp;simp_all;done)|(go_simp;rfl)
 simp only[Act.put,sI,sZ,sS];refine good_pureX 2 (some 11) (Go.Op.load 34 (Go.Operand.tmp 3)) (none) (.agg #[.bool bb,sb,tb]) (by kernel_rfl) (by kernel_rfl) (by kernel_rfl) (fun _ _ _ h=>h) (fun w' hw'=> ?_) ?_
 ·obtain⟨cb00,cb01,cb02,fb00,fb01,fb02⟩:=(Box.se hw' Xb0.out notin0).c3
  first|(go_simp;done)|(go_simp;simp_all;done)|(go_simp;rfl)
 simp only[Act.put,sI,sZ,sS];refine good_callX 1 80 (some 10) #[Go.Operand.tmp 9] #[34] (none) #[.agg #[.bool ba,sa,ta]] (by kernel_rfl) Hok.out (by kernel_rfl) (by kernel_rfl) (by kernel_rfl) (by kernel_rfl) rfl rfl rfl (by kernel_rfl) (fun w2 hb=> ?_);have HG:=lH (bC HG.out hb);clear hb
 (first|(have hcall:=rsign_p (ba:=ba) s Hs.out (iK Hna.out (kC HG.out)) (iK Hda.out (kC HG.out)) (by omega);refine cM hcall ?_;clear hcall)|refine cM (rsign_p (ba:=ba) s Hs.out (iK Hna.out (kC HG.out)) (iK Hda.out (kC HG.out)) (by omega)) ?_)
 rintro e w3 ⟨v3,rfl,rfl,hb⟩;refine⟨_,rfl,?_,hb⟩;have HG:=lH (bC HG.out hb);clear hb;simp only[Act.put,sI,sZ,sS];refine good_callX 3 80 (some 12) #[Go.Operand.tmp 11] #[34] (none) #[.agg #[.bool bb,sb,tb]] (by kernel_rfl) Hok.out (by kernel_rfl) (by kernel_rfl) (by kernel_rfl) (by kernel_rfl) rfl rfl rfl (by kernel_rfl) (fun w4 hb=> ?_);have HG:=lH (bC HG.out hb);clear hb
 (first|(have hcall:=rsign_p (ba:=bb) s Ht.out (iK Hnb.out (kC HG.out)) (iK Hdb.out (kC HG.out)) (by omega);refine cM hcall ?_;clear hcall)|refine cM (rsign_p (ba:=bb) s Ht.out (iK Hnb.out (kC HG.out)) (iK Hdb.out (kC HG.out)) (by omega)) ?_)
 rintro e w5 ⟨v5,rfl,rfl,hb⟩;refine⟨_,rfl,?_,hb⟩;have HG:=lH (bC HG.out hb);clear hb;simp only[Act.put,sI,sZ,sS];refine good_pureX 4 (some 5) (Go.Op.assign (Go.Operand.tmp 10)) (none) (.int .i64 s) (by kernel_rfl) (by kernel_rfl) (by kernel_rfl) (fun _ _ _ h=>h) (fun w' hw'=> ?_) ?_
 ·first|(go_simp;done)|(go_simp;simp_all;done)|(go_simp;rfl)
 simp only[Act.put,sI,sZ,sS];refine good_pureX 5 (some 6) (Go.Op.assign (Go.Operand.tmp 12)) (none) (.int .i64 s) (by kernel_rfl) (by kernel_rfl) (by kernel_rfl) (fun _ _ _ h=>h) (fun w' hw'=> ?_) ?_
 ·first|(go_simp;done)|(go_simp;simp_all;done)|(go_simp;rfl)
 simp only[Act.put,sI,sZ,sS];refine good_end0 0 (by kernel_rfl) (fun _ w6 hb=> ?_);have HG:=lH (bC HG.out hb);clear hb;have Hna:=lH (iK Hna.out (kC HG.out));have Hda:=lH (iK Hda.out (kC HG.out));have Hnb:=lH (iK Hnb.out (kC HG.out));have Hdb:=lH (iK Hdb.out (kC HG.out));have Xa0:=lH (xP HG.out Xa0.out);have Xb0:=lH (xP HG.out Xb0.out);have HB:=lH (bC HB.out HG.out);have HS:=lH (SE.of (E:=[]) HG.out);refine wpAnyH_done (by kernel_rfl) ?_ _;clear HG HS Hok;obtain⟨ca00,ca01,ca02,fa00,fa01,fa02⟩:=Xa0.out.c3;have la0:=Xa0.out.lt;obtain⟨cb00,cb01,cb02,fb00,fb01,fb02⟩:=Xb0.out.c3;have lb0:=Xb0.out.lt
 go_wp2_with fail
 clear ca00 ca01 ca02 fa00 fa01 fa02 la0 cb00 cb01 cb02 fb00 fb01 fb02 lb0
 (first|(have hcall:=cross_p (ba:=ba) (bb:=bb) Hna.out Hda.out Hnb.out Hdb.out (by omega) (by omega);refine cM hcall ?_;clear hcall)|refine cM (cross_p (ba:=ba) (bb:=bb) Hna.out Hda.out Hnb.out Hdb.out (by omega) (by omega)) ?_)
 rintro e w7 ⟨t7,rfl,⟨v7,u7,rfl,hx,hv⟩,hb⟩;obtain⟨x_b,x_a,x_n,x_c,rfl⟩:=hx.litb;obtain⟨v_b,v_a,v_n,v_c,rfl⟩:=hv.litb;have Xa0:=lH (xP hb Xa0.out);have Xb0:=lH (xP hb Xb0.out);have HB:=lH (bC HB.out hb);have Hx:=lH hx;have Hv:=lH hv;clear hb hx hv;obtain⟨ca00,ca01,ca02,fa00,fa01,fa02⟩:=Xa0.out.c3;have la0:=Xa0.out.lt;obtain⟨cb00,cb01,cb02,fb00,fb01,fb02⟩:=Xb0.out.c3;have lb0:=Xb0.out.lt
 go_wp2_with fail
 clear ca00 ca01 ca02 fa00 fa01 fa02 la0 cb00 cb01 cb02 fb00 fb01 fb02 lb0;obtain⟨W8,hW⟩:∃W8,W8=(World.alloc (World.alloc w7 (.cells #[.bool x_b,.slice x_a x_n x_c] 100)) (.cells #[.bool v_b,.slice v_a v_n v_c] 100)):=⟨_,rfl⟩;rw[←hW];obtain⟨xc0,xd0,hk,hb⟩:=boxes_2 _ _ _ _ _ hW;clear hW;have Hx:=lH (CL.keep Hx.out hk);have Hv:=lH (CL.keep Hv.out hk);have Na0c0:=lH (show w.heap.size≠w7.heap.size from Nat.ne_of_lt (Nat.lt_of_lt_of_le Xa0.out.lt (by omega)));have Nb0c0:=lH (show w.heap.size+1≠w7.heap.size from Nat.ne_of_lt (Nat.lt_of_lt_of_le Xb0.out.lt (by omega)));have Gc0:=lH (show w.heap.size≤w7.heap.size from tL_ HB.out.size (by omega));have Na0d0:=lH (show w.heap.size≠w7.heap.size+1 from Nat.ne_of_lt (Nat.lt_of_lt_of_le Xa0.out.lt (by omega)));have Nb0d0:=lH (show w.heap.size+1≠w7.heap.size+1 from Nat.ne_of_lt (Nat.lt_of_lt_of_le Xb0.out.lt (by omega)));have Gd0:=lH (show w.heap.size≤w7.heap.size+1 from tL_ HB.out.size (by omega));have Xa0:=lH (xP hb Xa0.out);have Xb0:=lH (xP hb Xb0.out);have Xc0:=lH xc0;have Xd0:=lH xd0;have HB:=lH (bC HB.out hb);clear hk hb xc0 xd0
 (first|(have hcall:=icmp_ai k Hx.out.ai Hv.out.ai Hk.out (by omega) (by omega);refine cM hcall ?_;clear hcall)|refine cM (icmp_ai k Hx.out.ai Hv.out.ai Hk.out (by omega) (by omega)) ?_)
 rintro e w9 ⟨v9,rfl,rfl,hb⟩;have Xa0:=lH (xP hb Xa0.out);have Xb0:=lH (xP hb Xb0.out);have Xc0:=lH (xP hb Xc0.out);have Xd0:=lH (xP hb Xd0.out);have HB:=lH (bC HB.out hb);clear hb;obtain⟨ca00,ca01,ca02,fa00,fa01,fa02⟩:=Xa0.out.c3;have la0:=Xa0.out.lt;obtain⟨cb00,cb01,cb02,fb00,fb01,fb02⟩:=Xb0.out.c3;have lb0:=Xb0.out.lt;obtain⟨cc00,cc01,fc00,fc01⟩:=Xc0.out.c2;have lc0:=Xc0.out.lt;obtain⟨cd00,cd01,fd00,fd01⟩:=Xd0.out.c2;have ld0:=Xd0.out.lt;go_wp2;clear ca00 ca01 ca02 fa00 fa01 fa02 la0 cb00 cb01 cb02 fb00 fb01 fb02 lb0 cc00 cc01 fc00 fc01 lc0 cd00 cd01 fd00 fd01 ld0
 go_ret
 exact⟨_,rfl,rfl,HB.out⟩
theorem rcmp_ar {a b:Rat}{L M:Nat}{u v:Value}{w:World}(k:Int)(h:AR a L w u)(h':AR b M w v)(hk:cmpQ a b=k)(hL:L≤100000000)(hM:M≤100000000):
  Calls Tryz.prog 56 #[u,v] w (Ret w (Val (.int .i64 k))):=by
 obtain⟨ba,sa,ta,na,da,rfl,h1,h2,rfl⟩:=h;obtain⟨bb,sb,tb,nb,db,rfl,h3,h4,rfl⟩:=h';rw[cmpQ_rv]at hk;rcases Int.lt_trichotomy (iv ba na).sign (iv bb nb).sign with hs|hs|hs
 ·rw[cross_lt hs]at hk;subst hk;exact rcmp_lt _ _ rfl rfl (by simp;omega) (by simpa using hs) h1 h2 h3 h4 hL hM
 ·exact rcmp_eq _ _ rfl hs.symm hk h1 h2 h3 h4 hL hM
 ·rw[cross_gt hs]at hk;subst hk;exact rcmp_gt _ _ rfl rfl (by simp;omega) (by simp;omega) h1 h2 h3 h4 hL hM
theorem rneg_p {L:Nat}{qa:Rat}{ba:Bool}{sa ta:Value}{w:World}(ha:AR qa L w (.agg #[.bool ba,sa,ta]))(hL:L≤100000000):
  Calls Tryz.prog 54 #[.agg #[.bool ba,sa,ta]] w (Ret w (CR (-qa) (max L 1))):=by
 have Ha:=lH ha;clear ha
 go_enter Tryz.func54,Tryz.ntmps54
 have HB:=lH (bR_ w.heap.size w)
 go_wp2_with fail
 obtain⟨W1,hW⟩:∃W1,W1=(World.alloc (World.alloc w (.cells #[.bool (!ba),sa,ta] 34)) (.cells #[.bool false,.slice none 0 0,.slice none 0 0] 34)):=⟨_,rfl⟩;rw[←hW];obtain⟨xa0,xb0,hk,hb⟩:=boxes_2 _ _ _ _ _ hW;clear hW;have Ha:=lH (AR.keep Ha.out hk);have Ga0:=lH (show w.heap.size≤w.heap.size from tL_ HB.out.size (by omega));have Gb0:=lH (show w.heap.size≤w.heap.size+1 from tL_ HB.out.size (by omega));have Xa0:=lH xa0;have Xb0:=lH xb0;have HB:=lH (bC HB.out hb);clear hk hb xa0 xb0
 (first|(have hcall:=canon_ar (AR.neg Ha.out) (by omega);refine cM hcall ?_;clear hcall)|refine cM (canon_ar (AR.neg Ha.out) (by omega)) ?_)
 rintro e w2 ⟨v2,rfl,hz,hb⟩;obtain⟨z_b,z_a,z_n,z_c,z_d,z_m,z_e,rfl⟩:=hz.litb;have Xa0:=lH (xP hb Xa0.out);have Xb0:=lH (xP hb Xb0.out);have HB:=lH (bC HB.out hb);have Hz:=lH hz;clear hb hz;obtain⟨ca00,ca01,ca02,fa00,fa01,fa02⟩:=Xa0.out.c3;have la0:=Xa0.out.lt;obtain⟨cb00,cb01,cb02,fb00,fb01,fb02⟩:=Xb0.out.c3;have lb0:=Xb0.out.lt;go_wp2;clear ca00 ca01 ca02 fa00 fa01 fa02 la0 cb00 cb01 cb02 fb00 fb01 fb02 lb0;obtain⟨W3,hW⟩:∃W3,W3=(World.setCell (World.setCell (World.setCell w2 ⟨w.heap.size+1,0,none⟩ (.bool z_b)) ⟨w.heap.size+1,1,none⟩ (.slice z_a z_n z_c)) ⟨w.heap.size+1,2,none⟩ (.slice z_d z_m z_e)):=⟨_,rfl⟩;rw[←hW];obtain⟨xb0,hk,hf,hbb,hz⟩:=stored3s hW Xb0.out (by first|exact nB_ _|exact nS_ _ _ _) (by first|exact nB_ _|exact nS_ _ _ _) (by first|exact nB_ _|exact nS_ _ _ _);have Hz:=lH (CR.keep Hz.out hk);have Xa0:=lH (hf _ _ _ Xa0.out (by omega));have Xb0:=lH xb0;have HB:=lH (hbb _ HB.out Gb0.out);clear hW hk hf hbb xb0;clear hz;exact ret_rat1 rfl rfl rfl Xb0.out Hz.out HB.out
theorem rneg_ar {q:Rat}{L:Nat}{v:Value}{w:World}(h:AR q L w v)(hL:L≤100000000):Calls Tryz.prog 54 #[v] w (Ret w (CR (-q) (max L 1))):=by
 obtain⟨b,s,t,rfl⟩:=h.agg;exact rneg_p h hL
theorem radd_p {L M:Nat}{ba:Bool}{na da:Nat}{sa ta:Value}{bb:Bool}{nb db:Nat}{sb tb:Value}{w:World}(hna:Is na L w sa)(hda:Is da L w ta)(hnb:Is nb M w sb)(hdb:Is db M w tb)(hL:L≤100000000)(hM:M≤100000000):
  Calls Tryz.prog 115 #[.agg #[.bool ba,sa,ta],.agg #[.bool bb,sb,tb]] w (Ret w (CR (rv ba na da+rv bb nb db) (L+M+3))):=by
 have Hna:=lH hna;have Hda:=lH hda;have Hnb:=lH hnb;have Hdb:=lH hdb;clear hna hda hnb hdb
 go_enter Tryz.func115,Tryz.ntmps115
 have HB:=lH (bR_ w.heap.size w)
 go_wp2_with fail
 obtain⟨W1,hW⟩:∃W1,W1=(World.alloc (World.alloc (World.alloc w (.cells #[.bool ba,sa,ta] 34)) (.cells #[.bool bb,sb,tb] 34)) (.cells #[.bool false,.slice none 0 0,.slice none 0 0] 34)):=⟨_,rfl⟩;rw[←hW];obtain⟨xa0,xb0,xc0,hk,hb⟩:=boxes_3 _ _ _ _ _ _ _ hW;clear hW;have Hna:=lH (iK Hna.out hk);have Hda:=lH (iK Hda.out hk);have Hnb:=lH (iK Hnb.out hk);have Hdb:=lH (iK Hdb.out hk);have Ga0:=lH (show w.heap.size≤w.heap.size from tL_ HB.out.size (by omega));have Gb0:=lH (show w.heap.size≤w.heap.size+1 from tL_ HB.out.size (by omega));have Gc0:=lH (show w.heap.size≤w.heap.size+1+1 from tL_ HB.out.size (by omega));have Xa0:=lH xa0;have Xb0:=lH xb0;have Xc0:=lH xc0;have HB:=lH (bC HB.out hb);clear hk hb xa0 xb0 xc0
 (first|(have hcall:=cross_p (ba:=ba) (bb:=bb) Hna.out Hda.out Hnb.out Hdb.out (by omega) (by omega);refine cM hcall ?_;clear hcall)|refine cM (cross_p (ba:=ba) (bb:=bb) Hna.out Hda.out Hnb.out Hdb.out (by omega) (by omega)) ?_)
 rintro e w2 ⟨t2,rfl,⟨v2,u2,rfl,hx,hv⟩,hb⟩;obtain⟨x_b,x_a,x_n,x_c,rfl⟩:=hx.litb;obtain⟨v_b,v_a,v_n,v_c,rfl⟩:=hv.litb;have Hda:=lH (iK Hda.out (kC hb));have Hdb:=lH (iK Hdb.out (kC hb));have Xa0:=lH (xP hb Xa0.out);have Xb0:=lH (xP hb Xb0.out);have Xc0:=lH (xP hb Xc0.out);have HB:=lH (bC HB.out hb);have Hx:=lH hx;have Hv:=lH hv;clear hb hx hv;obtain⟨ca00,ca01,ca02,fa00,fa01,fa02⟩:=Xa0.out.c3;have la0:=Xa0.out.lt;obtain⟨cb00,cb01,cb02,fb00,fb01,fb02⟩:=Xb0.out.c3;have lb0:=Xb0.out.lt;obtain⟨cc00,cc01,cc02,fc00,fc01,fc02⟩:=Xc0.out.c3;have lc0:=Xc0.out.lt
 go_wp2_with fail
 clear ca00 ca01 ca02 fa00 fa01 fa02 la0 cb00 cb01 cb02 fb00 fb01 fb02 lb0 cc00 cc01 cc02 fc00 fc01 fc02 lc0;obtain⟨W3,hW⟩:∃W3,W3=(World.alloc (World.alloc w2 (.cells #[.bool x_b,.slice x_a x_n x_c] 100)) (.cells #[.bool v_b,.slice v_a v_n v_c] 100)):=⟨_,rfl⟩;rw[←hW];obtain⟨xd0,xe0,hk,hb⟩:=boxes_2 _ _ _ _ _ hW;clear hW;have Hda:=lH (iK Hda.out hk);have Hdb:=lH (iK Hdb.out hk);have Hx:=lH (CL.keep Hx.out hk);have Hv:=lH (CL.keep Hv.out hk);have Na0d0:=lH (show w.heap.size≠w2.heap.size from Nat.ne_of_lt (Nat.lt_of_lt_of_le Xa0.out.lt (by omega)));have Nb0d0:=lH (show w.heap.size+1≠w2.heap.size from Nat.ne_of_lt (Nat.lt_of_lt_of_le Xb0.out.lt (by omega)));have Nc0d0:=lH (show w.heap.size+1+1≠w2.heap.size from Nat.ne_of_lt (Nat.lt_of_lt_of_le Xc0.out.lt (by omega)));have Gd0:=lH (show w.heap.size≤w2.heap.size from tL_ HB.out.size (by omega));have Na0e0:=lH (show w.heap.size≠w2.heap.size+1 from Nat.ne_of_lt (Nat.lt_of_lt_of_le Xa0.out.lt (by omega)));have Nb0e0:=lH (show w.heap.size+1≠w2.heap.size+1 from Nat.ne_of_lt (Nat.lt_of_lt_of_le Xb0.out.lt (by omega)));have Nc0e0:=lH (show w.heap.size+1+1≠w2.heap.size+1 from Nat.ne_of_lt (Nat.lt_of_lt_of_le Xc0.out.lt (by omega)));have Ge0:=lH (show w.heap.size≤w2.heap.size+1 from tL_ HB.out.size (by omega));have Xa0:=lH (xP hb Xa0.out);have Xb0:=lH (xP hb Xb0.out);have Xc0:=lH (xP hb Xc0.out);have Xd0:=lH xd0;have Xe0:=lH xe0;have HB:=lH (bC HB.out hb);clear hk hb xd0 xe0
 (first|(have hcall:=iadd_ai Hx.out.ai Hv.out.ai (by omega) (by omega);refine cM hcall ?_;clear hcall)|refine cM (iadd_ai Hx.out.ai Hv.out.ai (by omega) (by omega)) ?_)
 rintro e w4 ⟨v4,rfl,hs,hb⟩;obtain⟨s_b,s_a,s_n,s_c,rfl⟩:=hs.litb;have Hda:=lH (iK Hda.out (kC hb));have Hdb:=lH (iK Hdb.out (kC hb));have Xa0:=lH (xP hb Xa0.out);have Xb0:=lH (xP hb Xb0.out);have Xc0:=lH (xP hb Xc0.out);have Xd0:=lH (xP hb Xd0.out);have Xe0:=lH (xP hb Xe0.out);have HB:=lH (bC HB.out hb);have Hs:=lH hs;clear hb hs;obtain⟨ca00,ca01,ca02,fa00,fa01,fa02⟩:=Xa0.out.c3;have la0:=Xa0.out.lt;obtain⟨cb00,cb01,cb02,fb00,fb01,fb02⟩:=Xb0.out.c3;have lb0:=Xb0.out.lt;obtain⟨cc00,cc01,cc02,fc00,fc01,fc02⟩:=Xc0.out.c3;have lc0:=Xc0.out.lt;obtain⟨cd00,cd01,fd00,fd01⟩:=Xd0.out.c2;have ld0:=Xd0.out.lt;obtain⟨ce00,ce01,fe00,fe01⟩:=Xe0.out.c2;have le0:=Xe0.out.lt
 go_wp2_with fail
 clear ca00 ca01 ca02 fa00 fa01 fa02 la0 cb00 cb01 cb02 fb00 fb01 fb02 lb0 cc00 cc01 cc02 fc00 fc01 fc02 lc0 cd00 cd01 fd00 fd01 ld0 ce00 ce01 fe00 fe01 le0;obtain⟨W5,hW⟩:∃W5,W5=(World.alloc w4 (.cells #[.bool s_b,.slice s_a s_n s_c] 100)):=⟨_,rfl⟩;rw[←hW];obtain⟨xf0,hk,hb⟩:=boxes_1 _ _ _ hW;clear hW;have Hda:=lH (iK Hda.out hk);have Hdb:=lH (iK Hdb.out hk);have Hs:=lH (CL.keep Hs.out hk);have Na0f0:=lH (show w.heap.size≠w4.heap.size from Nat.ne_of_lt (Nat.lt_of_lt_of_le Xa0.out.lt (by omega)));have Nb0f0:=lH (show w.heap.size+1≠w4.heap.size from Nat.ne_of_lt (Nat.lt_of_lt_of_le Xb0.out.lt (by omega)));have Nc0f0:=lH (show w.heap.size+1+1≠w4.heap.size from Nat.ne_of_lt (Nat.lt_of_lt_of_le Xc0.out.lt (by omega)));have Nd0f0:=lH (show w2.heap.size≠w4.heap.size from Nat.ne_of_lt (Nat.lt_of_lt_of_le Xd0.out.lt (by omega)));have Ne0f0:=lH (show w2.heap.size+1≠w4.heap.size from Nat.ne_of_lt (Nat.lt_of_lt_of_le Xe0.out.lt (by omega)));have Gf0:=lH (show w.heap.size≤w4.heap.size from tL_ HB.out.size (by omega));have Xa0:=lH (xP hb Xa0.out);have Xb0:=lH (xP hb Xb0.out);have Xc0:=lH (xP hb Xc0.out);have Xd0:=lH (xP hb Xd0.out);have Xe0:=lH (xP hb Xe0.out);have Xf0:=lH xf0;have HB:=lH (bC HB.out hb);clear hk hb xf0;have Hda:=lH (iK Hda.out (Keep.drew W5));have Hdb:=lH (iK Hdb.out (Keep.drew W5));have Hs:=lH (CL.keep Hs.out (Keep.drew W5));have Xa0:=lH (Box.drew Xa0.out);have Xb0:=lH (Box.drew Xb0.out);have Xc0:=lH (Box.drew Xc0.out);have Xd0:=lH (Box.drew Xd0.out);have Xe0:=lH (Box.drew Xe0.out);have Xf0:=lH (Box.drew Xf0.out);have HB:=lH (Below.drew HB.out);refine wp_region_float [w.heap.size+1+1] [] (by kernel_rfl) (by kernel_rfl) 27 (by kernel_rfl) Flok.nil ?_;intro ok;have Hok:=lH ok;clear ok;have HG:=lH (bR_ (W5.drew).heap.size (W5.drew));refine good_pureX 0 (some 17) (Go.Op.fieldAddr 100 (Go.Operand.tmp 7) 0) (none) (.pointer (some ⟨w4.heap.size,0,none⟩)) (by kernel_rfl) (by kernel_rfl) (by kernel_rfl) (fun _ _ _ h=>h) (fun w' hw'=> ?_) ?_
 ·first|(go_simp;done)|(go_simp;simp_all;done)|(go_simp;rfl)
 simp only[Act.put,sI,sZ,sS];refine good_pureX 1 (some 18) (Go.Op.load 4 (Go.Operand.tmp 17)) (none) (.bool s_b) (by kernel_rfl) (by kernel_rfl) (by kernel_rfl) (fun _ _ _ h=>h) (fun w' hw'=> ?_) ?_
 ·obtain⟨cf00,cf01,ff00,ff01⟩:=(Box.se hw' Xf0.out (notin1 Nc0f0.out.symm)).c2
  first|(go_simp;done)|(go_simp;simp_all;done)|(go_simp;rfl)
 simp only[Act.put,sI,sZ,sS];refine good_pureX 2 (some 19) (Go.Op.fieldAddr 100 (Go.Operand.tmp 7) 1) (none) (.pointer (some ⟨w4.heap.size,1,none⟩)) (by kernel_rfl) (by kernel_rfl) (by kernel_rfl) (fun _ _ _ h=>h) (fun w' hw'=> ?_) ?_
 ·first|(go_simp;done)|(go_simp;simp_all;done)|(go_simp;rfl)
 simp only[Act.put,sI,sZ,sS];refine good_pureX 3 (some 20) (Go.Op.load 32 (Go.Operand.tmp 19)) (none) (.slice s_a s_n s_c) (by kernel_rfl) (by kernel_rfl) (by kernel_rfl) (fun _ _ _ h=>h) (fun w' hw'=> ?_) ?_
 ·obtain⟨cf00,cf01,ff00,ff01⟩:=(Box.se hw' Xf0.out (notin1 Nc0f0.out.symm)).c2
  first|(go_simp;done)|(go_simp;simp_all;done)|(go_simp;rfl)
 simp only[Act.put,sI,sZ,sS];refine good_pureX 4 (some 21) (Go.Op.load 34 (Go.Operand.tmp 2)) (none) (.agg #[.bool ba,sa,ta]) (by kernel_rfl) (by kernel_rfl) (by kernel_rfl) (fun _ _ _ h=>h) (fun w' hw'=> ?_) ?_
 ·obtain⟨ca00,ca01,ca02,fa00,fa01,fa02⟩:=(Box.se hw' Xa0.out (notin1 (by omega))).c3
  first|(go_simp;done)|(go_simp;simp_all;done)|(go_simp;rfl)
 simp only[Act.put,sI,sZ,sS];refine good_pureX 6 (some 23) (Go.Op.load 34 (Go.Operand.tmp 3)) (none) (.agg #[.bool bb,sb,tb]) (by kernel_rfl) (by kernel_rfl) (by kernel_rfl) (fun _ _ _ h=>h) (fun w' hw'=> ?_) ?_
 ·obtain⟨cb00,cb01,cb02,fb00,fb01,fb02⟩:=(Box.se hw' Xb0.out (notin1 (by omega))).c3
  first|(go_simp;done)|(go_simp;simp_all;done)|(go_simp;rfl)
 simp only[Act.put,sI,sZ,sS];refine good_callX 5 121 (some 22) #[Go.Operand.tmp 21] #[34] (none) #[.agg #[.bool ba,sa,ta]] (by kernel_rfl) Hok.out (by kernel_rfl) (by kernel_rfl) (by kernel_rfl) (by kernel_rfl) rfl rfl rfl (by kernel_rfl) (fun w6 hb=> ?_);have HG:=lH (bC HG.out hb);clear hb
 (first|(have hcall:=under_is (b:=ba) (iK Hda.out (kC HG.out)) (by omega);refine cM hcall ?_;clear hcall)|refine cM (under_is (b:=ba) (iK Hda.out (kC HG.out)) (by omega)) ?_)
 rintro e w7 ⟨v7,rfl,hp,hb⟩;obtain⟨p_a,p_n,p_c,rfl⟩:=hp.lit;refine⟨_,rfl,?_,hb⟩;have HG:=lH (bC HG.out hb);have Hp:=lH hp;clear hb hp;simp only[Act.put,sI,sZ,sS];refine good_callX 7 121 (some 24) #[Go.Operand.tmp 23] #[34] (none) #[.agg #[.bool bb,sb,tb]] (by kernel_rfl) Hok.out (by kernel_rfl) (by kernel_rfl) (by kernel_rfl) (by kernel_rfl) rfl rfl rfl (by kernel_rfl) (fun w8 hb=> ?_);have Hp:=lH (iK Hp.out (kC hb));have HG:=lH (bC HG.out hb);clear hb
 (first|(have hcall:=under_is (b:=bb) (iK Hdb.out (kC HG.out)) (by omega);refine cM hcall ?_;clear hcall)|refine cM (under_is (b:=bb) (iK Hdb.out (kC HG.out)) (by omega)) ?_)
 rintro e w9 ⟨v9,rfl,hq,hb⟩;obtain⟨q_a,q_n,q_c,rfl⟩:=hq.lit;refine⟨_,rfl,?_,hb⟩;have Hp:=lH (iK Hp.out (kC hb));have HG:=lH (bC HG.out hb);have Hq:=lH hq;clear hb hq;simp only[Act.put,sI,sZ,sS];refine good_callX 8 143 (some 25) #[Go.Operand.tmp 22,Go.Operand.tmp 24] #[32,32] (none) #[.slice p_a p_n p_c,.slice q_a q_n q_c] (by kernel_rfl) Hok.out (by kernel_rfl) (by kernel_rfl) (by kernel_rfl) (by kernel_rfl) rfl rfl rfl (by kernel_rfl) (fun w10 hb=> ?_);have Hp:=lH (iK Hp.out (kC hb));have Hq:=lH (iK Hq.out (kC hb));have HG:=lH (bC HG.out hb);clear hb
 (first|(have hcall:=mul_is Hp.out Hq.out (by omega) (by omega);refine cM hcall ?_;clear hcall)|refine cM (mul_is Hp.out Hq.out (by omega) (by omega)) ?_)
 rintro e w11 ⟨v11,rfl,hm,hb⟩;obtain⟨m_a,m_n,m_c,rfl⟩:=hm.is.lit;refine⟨_,rfl,?_,hb⟩;have HG:=lH (bC HG.out hb);have Hm:=lH hm;clear hb hm;simp only[Act.put,sI,sZ,sS];refine good_callX 9 118 (some 26) #[Go.Operand.tmp 18,Go.Operand.tmp 20,Go.Operand.tmp 25] #[4,32,32] (none) #[.bool s_b,.slice s_a s_n s_c,.slice m_a m_n m_c] (by kernel_rfl) Hok.out (by kernel_rfl) (by kernel_rfl) (by kernel_rfl) (by kernel_rfl) rfl rfl rfl (by kernel_rfl) (fun w12 hb=> ?_);have Hm:=lH (Can.keep Hm.out (kC hb));have HG:=lH (bC HG.out hb);clear hb;refine cM (quot_is (neg:=s_b) (Nat.mul_pos (un_pos _) (un_pos _)) (CL.keep Hs.out (kC HG.out)).mag.is Hm.out.is (by omega) (by omega)) ?_;rintro e w13 ⟨v13,rfl,hz,hb⟩;obtain⟨z_b,z_a,z_n,z_c,z_d,z_m,z_e,rfl⟩:=hz.litb;refine⟨_,rfl,?_,hb⟩;have HG:=lH (bC HG.out hb);have Hz:=lH hz;clear hb hz;simp only[Act.put,sI,sZ,sS];refine good_end0 1 (by kernel_rfl) (fun _ w14 hb=> ?_);have Hz:=lH (CR.keep Hz.out (kC hb));have HG:=lH (bC HG.out hb);clear hb;have Hs:=lH (CL.keep Hs.out (kC HG.out));have Xa0:=lH (xP HG.out Xa0.out);have Xb0:=lH (xP HG.out Xb0.out);have Xc0:=lH (xP HG.out Xc0.out);have Xd0:=lH (xP HG.out Xd0.out);have Xe0:=lH (xP HG.out Xe0.out);have Xf0:=lH (xP HG.out Xf0.out);have HB:=lH (bC HB.out HG.out);have HS:=lH (SE.of (E:=[w.heap.size+1+1]) HG.out);refine held_oneX 10 (Go.Op.store 34 (Go.Operand.tmp 4) (Go.Operand.tmp 26)) (none) (World.setCell (World.setCell (World.setCell w14 ⟨w.heap.size+1+1,0,none⟩ (.bool z_b)) ⟨w.heap.size+1+1,1,none⟩ (.slice z_a z_n z_c)) ⟨w.heap.size+1+1,2,none⟩ (.slice z_d z_m z_e)) (by kernel_rfl) (by kernel_rfl) (by kernel_rfl) (by kernel_rfl) ?_ (HS.out.store3 in1) ?_
 ·obtain⟨cc00,cc01,cc02,fc00,fc01,fc02⟩:=Xc0.out.c3
  first|(go_simp;done)|(go_simp;simp_all;done)|(go_simp;rfl)
 obtain⟨W15,hW⟩:∃W15,W15=(World.setCell (World.setCell (World.setCell w14 ⟨w.heap.size+1+1,0,none⟩ (.bool z_b)) ⟨w.heap.size+1+1,1,none⟩ (.slice z_a z_n z_c)) ⟨w.heap.size+1+1,2,none⟩ (.slice z_d z_m z_e)):=⟨_,rfl⟩;rw[←hW];obtain⟨xc0,hk,hf,hbb,hz⟩:=stored3s hW Xc0.out (by first|exact nB_ _|exact nS_ _ _ _) (by first|exact nB_ _|exact nS_ _ _ _) (by first|exact nB_ _|exact nS_ _ _ _);have Hs:=lH (CL.keep Hs.out hk);have Hz:=lH (CR.keep Hz.out hk);have Xa0:=lH (hf _ _ _ Xa0.out (by omega));have Xb0:=lH (hf _ _ _ Xb0.out (by omega));have Xc0:=lH xc0;have Xd0:=lH (hf _ _ _ Xd0.out Nc0d0.out.symm);have Xe0:=lH (hf _ _ _ Xe0.out Nc0e0.out.symm);have Xf0:=lH (hf _ _ _ Xf0.out Nc0f0.out.symm);have HB:=lH (hbb _ HB.out Gc0.out);have HS:=lH (show SE (W5.drew) [w.heap.size+1+1] W15 from by rw[hW];exact HS.out.store3 in1);clear hW hk hf hbb xc0;clear hz;refine wpAnyH_done (by kernel_rfl) ?_ _;clear HG HS Hok;obtain⟨ca00,ca01,ca02,fa00,fa01,fa02⟩:=Xa0.out.c3;have la0:=Xa0.out.lt;obtain⟨cb00,cb01,cb02,fb00,fb01,fb02⟩:=Xb0.out.c3;have lb0:=Xb0.out.lt;obtain⟨cc00,cc01,cc02,fc00,fc01,fc02⟩:=Xc0.out.c3;have lc0:=Xc0.out.lt;obtain⟨cd00,cd01,fd00,fd01⟩:=Xd0.out.c2;have ld0:=Xd0.out.lt;obtain⟨ce00,ce01,fe00,fe01⟩:=Xe0.out.c2;have le0:=Xe0.out.lt;obtain⟨cf00,cf01,ff00,ff01⟩:=Xf0.out.c2;have lf0:=Xf0.out.lt;go_wp2;clear ca00 ca01 ca02 fa00 fa01 fa02 la0 cb00 cb01 cb02 fb00 fb01 fb02 lb0 cc00 cc01 cc02 fc00 fc01 fc02 lc0 cd00 cd01 fd00 fd01 ld0 ce00 ce01 fe00 fe01 le0 cf00 cf01 ff00 ff01 lf0;exact ret_rat1 rfl rfl rfl Xc0.out (CR.mono (CR.cast (add_parts (CL.iv Hs.out)) Hz.out) (by omega)) HB.out
theorem radd_ar {a b:Rat}{L M:Nat}{u v:Value}{w:World}(h:AR a L w u)(h':AR b M w v)(hL:L≤100000000)(hM:M≤100000000):
  Calls Tryz.prog 115 #[u,v] w (Ret w (CR (a+b) (L+M+3))):=by
 obtain⟨ba,sa,ta,na,da,rfl,h1,h2,rfl⟩:=h;obtain⟨bb,sb,tb,nb,db,rfl,h3,h4,rfl⟩:=h';exact radd_p h1 h2 h3 h4 hL hM
theorem rsub_p {L M:Nat}{qa:Rat}{ba:Bool}{sa ta:Value}{qb:Rat}{bb:Bool}{sb tb:Value}{w:World}(ha:AR qa L w (.agg #[.bool ba,sa,ta]))(hb:AR qb M w (.agg #[.bool bb,sb,tb]))(hL:L≤100000000)(hM:M≤100000000):
  Calls Tryz.prog 179 #[.agg #[.bool ba,sa,ta],.agg #[.bool bb,sb,tb]] w (Ret w (CR (qa-qb) (L+M+3))):=by
 have Ha:=lH ha;have Hb:=lH hb;clear ha hb
 go_enter Tryz.func179,Tryz.ntmps179
 have HB:=lH (bR_ w.heap.size w)
 go_wp2_with fail
 obtain⟨W1,hW⟩:∃W1,W1=(World.alloc (World.alloc (World.alloc w (.cells #[.bool ba,sa,ta] 34)) (.cells #[.bool (!bb),sb,tb] 34)) (.cells #[.bool false,.slice none 0 0,.slice none 0 0] 34)):=⟨_,rfl⟩;rw[←hW];obtain⟨xa0,xb0,xc0,hk,hb⟩:=boxes_3 _ _ _ _ _ _ _ hW;clear hW;have Ha:=lH (AR.keep Ha.out hk);have Hb:=lH (AR.keep Hb.out hk);have Ga0:=lH (show w.heap.size≤w.heap.size from tL_ HB.out.size (by omega));have Gb0:=lH (show w.heap.size≤w.heap.size+1 from tL_ HB.out.size (by omega));have Gc0:=lH (show w.heap.size≤w.heap.size+1+1 from tL_ HB.out.size (by omega));have Xa0:=lH xa0;have Xb0:=lH xb0;have Xc0:=lH xc0;have HB:=lH (bC HB.out hb);clear hk hb xa0 xb0 xc0
 (first|(have hcall:=radd_ar Ha.out (AR.neg Hb.out) (by omega) (by omega);refine cM hcall ?_;clear hcall)|refine cM (radd_ar Ha.out (AR.neg Hb.out) (by omega) (by omega)) ?_)
 rintro e w2 ⟨v2,rfl,hz,hb⟩;obtain⟨z_b,z_a,z_n,z_c,z_d,z_m,z_e,rfl⟩:=hz.litb;have Xa0:=lH (xP hb Xa0.out);have Xb0:=lH (xP hb Xb0.out);have Xc0:=lH (xP hb Xc0.out);have HB:=lH (bC HB.out hb);have Hz:=lH hz;clear hb hz;obtain⟨ca00,ca01,ca02,fa00,fa01,fa02⟩:=Xa0.out.c3;have la0:=Xa0.out.lt;obtain⟨cb00,cb01,cb02,fb00,fb01,fb02⟩:=Xb0.out.c3;have lb0:=Xb0.out.lt;obtain⟨cc00,cc01,cc02,fc00,fc01,fc02⟩:=Xc0.out.c3;have lc0:=Xc0.out.lt;go_wp2;clear ca00 ca01 ca02 fa00 fa01 fa02 la0 cb00 cb01 cb02 fb00 fb01 fb02 lb0 cc00 cc01 cc02 fc00 fc01 fc02 lc0;obtain⟨W3,hW⟩:∃W3,W3=(World.setCell (World.setCell (World.setCell w2 ⟨w.heap.size+1+1,0,none⟩ (.bool z_b)) ⟨w.heap.size+1+1,1,none⟩ (.slice z_a z_n z_c)) ⟨w.heap.size+1+1,2,none⟩ (.slice z_d z_m z_e)):=⟨_,rfl⟩;rw[←hW];obtain⟨xc0,hk,hf,hbb,hz⟩:=stored3s hW Xc0.out (by first|exact nB_ _|exact nS_ _ _ _) (by first|exact nB_ _|exact nS_ _ _ _) (by first|exact nB_ _|exact nS_ _ _ _);have Hz:=lH (CR.keep Hz.out hk);have Xa0:=lH (hf _ _ _ Xa0.out (by omega));have Xb0:=lH (hf _ _ _ Xb0.out (by omega));have Xc0:=lH xc0;have HB:=lH (hbb _ HB.out Gc0.out);clear hW hk hf hbb xc0;clear hz;exact ret_rat1 rfl rfl rfl Xc0.out (CR.cast (Rat.sub_eq_add_neg _ _).symm Hz.out) HB.out
theorem rsub_ar {a b:Rat}{L M:Nat}{u v:Value}{w:World}(h:AR a L w u)(h':AR b M w v)(hL:L≤100000000)(hM:M≤100000000):Calls Tryz.prog 179 #[u,v] w (Ret w (CR (a-b) (L+M+3))):=by
 obtain⟨ba,sa,ta,rfl⟩:=h.agg;obtain⟨bb,sb,tb,rfl⟩:=h'.agg;exact rsub_p h h' hL hM
theorem rmul_p {L M:Nat}{ba:Bool}{na da:Nat}{sa ta:Value}{bb:Bool}{nb db:Nat}{sb tb:Value}{w:World}(hna:Is na L w sa)(hda:Is da L w ta)(hnb:Is nb M w sb)(hdb:Is db M w tb)(hL:L≤100000000)(hM:M≤100000000):
  Calls Tryz.prog 116 #[.agg #[.bool ba,sa,ta],.agg #[.bool bb,sb,tb]] w (Ret w (CR (rv ba na da*rv bb nb db) (L+M+2))):=by
 have Hna:=lH hna;have Hda:=lH hda;have Hnb:=lH hnb;have Hdb:=lH hdb;clear hna hda hnb hdb
 go_enter Tryz.func116,Tryz.ntmps116
 have HB:=lH (bR_ w.heap.size w)
 go_wp2_with fail
 obtain⟨W1,hW⟩:∃W1,W1=(World.alloc (World.alloc (World.alloc w (.cells #[.bool ba,sa,ta] 34)) (.cells #[.bool bb,sb,tb] 34)) (.cells #[.bool false,.slice none 0 0,.slice none 0 0] 34)):=⟨_,rfl⟩;rw[←hW];obtain⟨xa0,xb0,xc0,hk,hb⟩:=boxes_3 _ _ _ _ _ _ _ hW;clear hW;have Hna:=lH (iK Hna.out hk);have Hda:=lH (iK Hda.out hk);have Hnb:=lH (iK Hnb.out hk);have Hdb:=lH (iK Hdb.out hk);have Ga0:=lH (show w.heap.size≤w.heap.size from tL_ HB.out.size (by omega));have Gb0:=lH (show w.heap.size≤w.heap.size+1 from tL_ HB.out.size (by omega));have Gc0:=lH (show w.heap.size≤w.heap.size+1+1 from tL_ HB.out.size (by omega));have Xa0:=lH xa0;have Xb0:=lH xb0;have Xc0:=lH xc0;have HB:=lH (bC HB.out hb);clear hk hb xa0 xb0 xc0;have Hna:=lH (iK Hna.out (Keep.drew W1));have Hda:=lH (iK Hda.out (Keep.drew W1));have Hnb:=lH (iK Hnb.out (Keep.drew W1));have Hdb:=lH (iK Hdb.out (Keep.drew W1));have Xa0:=lH (Box.drew Xa0.out);have Xb0:=lH (Box.drew Xb0.out);have Xc0:=lH (Box.drew Xc0.out);have HB:=lH (Below.drew HB.out);refine wp_region_float [w.heap.size+1+1] [] (by kernel_rfl) (by kernel_rfl) 21 (by kernel_rfl) Flok.nil ?_;intro ok;have Hok:=lH ok;clear ok;have HG:=lH (bR_ (W1.drew).heap.size (W1.drew));refine good_pureX 0 (some 5) (Go.Op.fieldAddr 34 (Go.Operand.tmp 2) 0) (none) (.pointer (some ⟨w.heap.size,0,none⟩)) (by kernel_rfl) (by kernel_rfl) (by kernel_rfl) (fun _ _ _ h=>h) (fun w' hw'=> ?_) ?_
 ·first|(go_simp;done)|(go_simp;simp_all;done)|(go_simp;rfl)
 simp only[Act.put,sI,sZ,sS];refine good_pureX 1 (some 6) (Go.Op.load 4 (Go.Operand.tmp 5)) (none) (.bool ba) (by kernel_rfl) (by kernel_rfl) (by kernel_rfl) (fun _ _ _ h=>h) (fun w' hw'=> ?_) ?_
 ·obtain⟨ca00,ca01,ca02,fa00,fa01,fa02⟩:=(Box.se hw' Xa0.out (notin1 (by omega))).c3
  first|(go_simp;done)|(go_simp;simp_all;done)|(go_simp;rfl)
 simp only[Act.put,sI,sZ,sS];refine good_pureX 2 (some 7) (Go.Op.fieldAddr 34 (Go.Operand.tmp 3) 0) (none) (.pointer (some ⟨w.heap.size+1,0,none⟩)) (by kernel_rfl) (by kernel_rfl) (by kernel_rfl) (fun _ _ _ h=>h) (fun w' hw'=> ?_) ?_
 ·first|(go_simp;done)|(go_simp;simp_all;done)|(go_simp;rfl)
 simp only[Act.put,sI,sZ,sS];refine good_pureX 3 (some 8) (Go.Op.load 4 (Go.Operand.tmp 7)) (none) (.bool bb) (by kernel_rfl) (by kernel_rfl) (by kernel_rfl) (fun _ _ _ h=>h) (fun w' hw'=> ?_) ?_
 ·obtain⟨cb00,cb01,cb02,fb00,fb01,fb02⟩:=(Box.se hw' Xb0.out (notin1 (by omega))).c3
  first|(go_simp;done)|(go_simp;simp_all;done)|(go_simp;rfl)
 simp only[Act.put,sI,sZ,sS];refine good_pureX 4 (some 9) (Go.Op.binOp Go.BinOp.neq 4 (Go.Operand.tmp 6) (Go.Operand.tmp 8) 4) (none) (.bool (!ba==bb)) (by kernel_rfl) (by kernel_rfl) (by kernel_rfl) (fun _ _ _ h=>h) (fun w' hw'=> ?_) ?_
 ·first|(go_simp;done)|(go_simp;simp_all;done)|(go_simp;rfl)
 simp only[Act.put,sI,sZ,sS];refine good_pureX 5 (some 10) (Go.Op.fieldAddr 34 (Go.Operand.tmp 2) 1) (none) (.pointer (some ⟨w.heap.size,1,none⟩)) (by kernel_rfl) (by kernel_rfl) (by kernel_rfl) (fun _ _ _ h=>h) (fun w' hw'=> ?_) ?_
 ·first|(go_simp;done)|(go_simp;simp_all;done)|(go_simp;rfl)
 simp only[Act.put,sI,sZ,sS];refine good_pureX 6 (some 11) (Go.Op.load 32 (Go.Operand.tmp 10)) (none) (sa) (by kernel_rfl) (by kernel_rfl) (by kernel_rfl) (fun _ _ _ h=>h) (fun w' hw'=> ?_) ?_
 ·obtain⟨ca00,ca01,ca02,fa00,fa01,fa02⟩:=(Box.se hw' Xa0.out (notin1 (by omega))).c3
  first|(go_simp;done)|(go_simp;simp_all;done)|(go_simp;rfl)
 simp only[Act.put,sI,sZ,sS];refine good_pureX 7 (some 12) (Go.Op.fieldAddr 34 (Go.Operand.tmp 3) 1) (none) (.pointer (some ⟨w.heap.size+1,1,none⟩)) (by kernel_rfl) (by kernel_rfl) (by kernel_rfl) (fun _ _ _ h=>h) (fun w' hw'=> ?_) ?_
 ·first|(go_simp;done)|(go_simp;simp_all;done)|(go_simp;rfl)
 simp only[Act.put,sI,sZ,sS];refine good_pureX 8 (some 13) (Go.Op.load 32 (Go.Operand.tmp 12)) (none) (sb) (by kernel_rfl) (by kernel_rfl) (by kernel_rfl) (fun _ _ _ h=>h) (fun w' hw'=> ?_) ?_
 ·obtain⟨cb00,cb01,cb02,fb00,fb01,fb02⟩:=(Box.se hw' Xb0.out (notin1 (by omega))).c3
  first|(go_simp;done)|(go_simp;simp_all;done)|(go_simp;rfl)
 simp only[Act.put,sI,sZ,sS];refine good_pureX 10 (some 15) (Go.Op.load 34 (Go.Operand.tmp 2)) (none) (.agg #[.bool ba,sa,ta]) (by kernel_rfl) (by kernel_rfl) (by kernel_rfl) (fun _ _ _ h=>h) (fun w' hw'=> ?_) ?_
 ·obtain⟨ca00,ca01,ca02,fa00,fa01,fa02⟩:=(Box.se hw' Xa0.out (notin1 (by omega))).c3
  first|(go_simp;done)|(go_simp;simp_all;done)|(go_simp;rfl)
 simp only[Act.put,sI,sZ,sS];refine good_pureX 12 (some 17) (Go.Op.load 34 (Go.Operand.tmp 3)) (none) (.agg #[.bool bb,sb,tb]) (by kernel_rfl) (by kernel_rfl) (by kernel_rfl) (fun _ _ _ h=>h) (fun w' hw'=> ?_) ?_
 ·obtain⟨cb00,cb01,cb02,fb00,fb01,fb02⟩:=(Box.se hw' Xb0.out (notin1 (by omega))).c3
  first|(go_simp;done)|(go_simp;simp_all;done)|(go_simp;rfl)
 simp only[Act.put,sI,sZ,sS];refine good_callX 9 143 (some 14) #[Go.Operand.tmp 11,Go.Operand.tmp 13] #[32,32] (none) #[sa,sb] (by kernel_rfl) Hok.out (by kernel_rfl) (by kernel_rfl) (by kernel_rfl) (by kernel_rfl) rfl rfl rfl (by kernel_rfl) (fun w2 hb=> ?_);have HG:=lH (bC HG.out hb);clear hb
 (first|(have hcall:=mul_is (iK Hna.out (kC HG.out)) (iK Hnb.out (kC HG.out)) (by omega) (by omega);refine cM hcall ?_;clear hcall)|refine cM (mul_is (iK Hna.out (kC HG.out)) (iK Hnb.out (kC HG.out)) (by omega) (by omega)) ?_)
 rintro e w3 ⟨v3,rfl,hx,hb⟩;obtain⟨x_a,x_n,x_c,rfl⟩:=hx.is.lit;refine⟨_,rfl,?_,hb⟩;have HG:=lH (bC HG.out hb);have Hx:=lH hx;clear hb hx;simp only[Act.put,sI,sZ,sS];refine good_callX 11 121 (some 16) #[Go.Operand.tmp 15] #[34] (none) #[.agg #[.bool ba,sa,ta]] (by kernel_rfl) Hok.out (by kernel_rfl) (by kernel_rfl) (by kernel_rfl) (by kernel_rfl) rfl rfl rfl (by kernel_rfl) (fun w4 hb=> ?_);have Hx:=lH (Can.keep Hx.out (kC hb));have HG:=lH (bC HG.out hb);clear hb
 (first|(have hcall:=under_is (b:=ba) (iK Hda.out (kC HG.out)) (by omega);refine cM hcall ?_;clear hcall)|refine cM (under_is (b:=ba) (iK Hda.out (kC HG.out)) (by omega)) ?_)
 rintro e w5 ⟨v5,rfl,hp,hb⟩;obtain⟨p_a,p_n,p_c,rfl⟩:=hp.lit;refine⟨_,rfl,?_,hb⟩;have Hx:=lH (Can.keep Hx.out (kC hb));have HG:=lH (bC HG.out hb);have Hp:=lH hp;clear hb hp;simp only[Act.put,sI,sZ,sS];refine good_callX 13 121 (some 18) #[Go.Operand.tmp 17] #[34] (none) #[.agg #[.bool bb,sb,tb]] (by kernel_rfl) Hok.out (by kernel_rfl) (by kernel_rfl) (by kernel_rfl) (by kernel_rfl) rfl rfl rfl (by kernel_rfl) (fun w6 hb=> ?_);have Hx:=lH (Can.keep Hx.out (kC hb));have Hp:=lH (iK Hp.out (kC hb));have HG:=lH (bC HG.out hb);clear hb
 (first|(have hcall:=under_is (b:=bb) (iK Hdb.out (kC HG.out)) (by omega);refine cM hcall ?_;clear hcall)|refine cM (under_is (b:=bb) (iK Hdb.out (kC HG.out)) (by omega)) ?_)
 rintro e w7 ⟨v7,rfl,hq,hb⟩;obtain⟨q_a,q_n,q_c,rfl⟩:=hq.lit;refine⟨_,rfl,?_,hb⟩;have Hx:=lH (Can.keep Hx.out (kC hb));have Hp:=lH (iK Hp.out (kC hb));have HG:=lH (bC HG.out hb);have Hq:=lH hq;clear hb hq;simp only[Act.put,sI,sZ,sS];refine good_callX 14 143 (some 19) #[Go.Operand.tmp 16,Go.Operand.tmp 18] #[32,32] (none) #[.slice p_a p_n p_c,.slice q_a q_n q_c] (by kernel_rfl) Hok.out (by kernel_rfl) (by kernel_rfl) (by kernel_rfl) (by kernel_rfl) rfl rfl rfl (by kernel_rfl) (fun w8 hb=> ?_);have Hx:=lH (Can.keep Hx.out (kC hb));have Hp:=lH (iK Hp.out (kC hb));have Hq:=lH (iK Hq.out (kC hb));have HG:=lH (bC HG.out hb);clear hb
 (first|(have hcall:=mul_is Hp.out Hq.out (by omega) (by omega);refine cM hcall ?_;clear hcall)|refine cM (mul_is Hp.out Hq.out (by omega) (by omega)) ?_)
 rintro e w9 ⟨v9,rfl,hy,hb⟩;obtain⟨y_a,y_n,y_c,rfl⟩:=hy.is.lit;refine⟨_,rfl,?_,hb⟩;have Hx:=lH (Can.keep Hx.out (kC hb));have HG:=lH (bC HG.out hb);have Hy:=lH hy;clear hb hy;simp only[Act.put,sI,sZ,sS];refine good_callX 15 118 (some 20) #[Go.Operand.tmp 9,Go.Operand.tmp 14,Go.Operand.tmp 19] #[4,32,32] (none) #[.bool (!ba==bb),.slice x_a x_n x_c,.slice y_a y_n y_c] (by kernel_rfl) Hok.out (by kernel_rfl) (by kernel_rfl) (by kernel_rfl) (by kernel_rfl) rfl rfl rfl (by kernel_rfl) (fun w10 hb=> ?_);have Hx:=lH (Can.keep Hx.out (kC hb));have Hy:=lH (Can.keep Hy.out (kC hb));have HG:=lH (bC HG.out hb);clear hb;refine cM (quot_is (neg:=(!ba==bb)) (Nat.mul_pos (un_pos _) (un_pos _)) Hx.out.is Hy.out.is (by omega) (by omega)) ?_;rintro e w11 ⟨v11,rfl,hz,hb⟩;obtain⟨z_b,z_a,z_n,z_c,z_d,z_m,z_e,rfl⟩:=hz.litb;refine⟨_,rfl,?_,hb⟩;have HG:=lH (bC HG.out hb);have Hz:=lH hz;clear hb hz;simp only[Act.put,sI,sZ,sS];refine good_end0 1 (by kernel_rfl) (fun _ w12 hb=> ?_);have Hz:=lH (CR.keep Hz.out (kC hb));have HG:=lH (bC HG.out hb);clear hb;have Xa0:=lH (xP HG.out Xa0.out);have Xb0:=lH (xP HG.out Xb0.out);have Xc0:=lH (xP HG.out Xc0.out);have HB:=lH (bC HB.out HG.out);have HS:=lH (SE.of (E:=[w.heap.size+1+1]) HG.out);refine held_oneX 16 (Go.Op.store 34 (Go.Operand.tmp 4) (Go.Operand.tmp 20)) (none) (World.setCell (World.setCell (World.setCell w12 ⟨w.heap.size+1+1,0,none⟩ (.bool z_b)) ⟨w.heap.size+1+1,1,none⟩ (.slice z_a z_n z_c)) ⟨w.heap.size+1+1,2,none⟩ (.slice z_d z_m z_e)) (by kernel_rfl) (by kernel_rfl) (by kernel_rfl) (by kernel_rfl) ?_ (HS.out.store3 in1) ?_
 ·obtain⟨cc00,cc01,cc02,fc00,fc01,fc02⟩:=Xc0.out.c3
  first|(go_simp;done)|(go_simp;simp_all;done)|(go_simp;rfl)
 obtain⟨W13,hW⟩:∃W13,W13=(World.setCell (World.setCell (World.setCell w12 ⟨w.heap.size+1+1,0,none⟩ (.bool z_b)) ⟨w.heap.size+1+1,1,none⟩ (.slice z_a z_n z_c)) ⟨w.heap.size+1+1,2,none⟩ (.slice z_d z_m z_e)):=⟨_,rfl⟩;rw[←hW];obtain⟨xc0,hk,hf,hbb,hz⟩:=stored3s hW Xc0.out (by first|exact nB_ _|exact nS_ _ _ _) (by first|exact nB_ _|exact nS_ _ _ _) (by first|exact nB_ _|exact nS_ _ _ _);have Hz:=lH (CR.keep Hz.out hk);have Xa0:=lH (hf _ _ _ Xa0.out (by omega));have Xb0:=lH (hf _ _ _ Xb0.out (by omega));have Xc0:=lH xc0;have HB:=lH (hbb _ HB.out Gc0.out);have HS:=lH (show SE (W1.drew) [w.heap.size+1+1] W13 from by rw[hW];exact HS.out.store3 in1);clear hW hk hf hbb xc0;clear hz;refine wpAnyH_done (by kernel_rfl) ?_ _;clear HG HS Hok;obtain⟨ca00,ca01,ca02,fa00,fa01,fa02⟩:=Xa0.out.c3;have la0:=Xa0.out.lt;obtain⟨cb00,cb01,cb02,fb00,fb01,fb02⟩:=Xb0.out.c3;have lb0:=Xb0.out.lt;obtain⟨cc00,cc01,cc02,fc00,fc01,fc02⟩:=Xc0.out.c3;have lc0:=Xc0.out.lt;go_wp2;clear ca00 ca01 ca02 fa00 fa01 fa02 la0 cb00 cb01 cb02 fb00 fb01 fb02 lb0 cc00 cc01 cc02 fc00 fc01 fc02 lc0;exact ret_rat1 rfl rfl rfl Xc0.out (CR.mono (CR.cast (mul_parts _ _ _ _ _ _) Hz.out) (by omega)) HB.out
theorem rmul_ar {a b:Rat}{L M:Nat}{u v:Value}{w:World}(h:AR a L w u)(h':AR b M w v)(hL:L≤100000000)(hM:M≤100000000):
  Calls Tryz.prog 116 #[u,v] w (Ret w (CR (a*b) (L+M+2))):=by
 obtain⟨ba,sa,ta,na,da,rfl,h1,h2,rfl⟩:=h;obtain⟨bb,sb,tb,nb,db,rfl,h3,h4,rfl⟩:=h';exact rmul_p h1 h2 h3 h4 hL hM
theorem rdiv_1 {L M:Nat}{ba:Bool}{na da:Nat}{sa ta:Value}{bb:Bool}{nb db:Nat}{sb tb:Value}{w:World}(s:Int)(hs:(iv bb nb).sign=s)(hs0:(s==0)=false)(hp0:0<nb)(hna:Is na L w sa)(hda:Is da L w ta)(hnb:Is nb M w sb)(hdb:Is db M w tb)(hL:L≤100000000)(hM:M≤100000000):
  Calls Tryz.prog 215 #[.agg #[.bool ba,sa,ta],.agg #[.bool bb,sb,tb]] w (Ret w (CRE (rv ba na da/rv bb nb db) (L+M+2) 0)):=by
 have Hna:=lH hna;have Hda:=lH hda;have Hnb:=lH hnb;have Hdb:=lH hdb;have Hs:=lH hs;have Hs0:=lH hs0;have Hp0:=lH hp0;clear hna hda hnb hdb hs hs0 hp0
 go_enter Tryz.func215,Tryz.ntmps215
 have HB:=lH (bR_ w.heap.size w)
 go_wp2_with fail
 obtain⟨W1,hW⟩:∃W1,W1=(World.alloc (World.alloc (World.alloc w (.cells #[.bool ba,sa,ta] 34)) (.cells #[.bool bb,sb,tb] 34)) (.cells #[.bool false,.slice none 0 0,.slice none 0 0] 34)):=⟨_,rfl⟩;rw[←hW];obtain⟨xa0,xb0,xc0,hk,hb⟩:=boxes_3 _ _ _ _ _ _ _ hW;clear hW;have Hna:=lH (iK Hna.out hk);have Hda:=lH (iK Hda.out hk);have Hnb:=lH (iK Hnb.out hk);have Hdb:=lH (iK Hdb.out hk);have Ga0:=lH (show w.heap.size≤w.heap.size from tL_ HB.out.size (by omega));have Gb0:=lH (show w.heap.size≤w.heap.size+1 from tL_ HB.out.size (by omega));have Gc0:=lH (show w.heap.size≤w.heap.size+1+1 from tL_ HB.out.size (by omega));have Xa0:=lH xa0;have Xb0:=lH xb0;have Xc0:=lH xc0;have HB:=lH (bC HB.out hb);clear hk hb xa0 xb0 xc0
 (first|(have hcall:=rsign_p (ba:=bb) s Hs.out Hnb.out Hdb.out (by omega);refine cM hcall ?_;clear hcall)|refine cM (rsign_p (ba:=bb) s Hs.out Hnb.out Hdb.out (by omega)) ?_)
 rintro e w2 ⟨v2,rfl,rfl,hb⟩;have Hna:=lH (iK Hna.out (kC hb));have Hda:=lH (iK Hda.out (kC hb));have Hnb:=lH (iK Hnb.out (kC hb));have Hdb:=lH (iK Hdb.out (kC hb));have Xa0:=lH (xP hb Xa0.out);have Xb0:=lH (xP hb Xb0.out);have Xc0:=lH (xP hb Xc0.out);have HB:=lH (bC HB.out hb);clear hb;have hs0:(s==0)=false:=Hs0.out;obtain⟨ca00,ca01,ca02,fa00,fa01,fa02⟩:=Xa0.out.c3;have la0:=Xa0.out.lt;obtain⟨cb00,cb01,cb02,fb00,fb01,fb02⟩:=Xb0.out.c3;have lb0:=Xb0.out.lt;obtain⟨cc00,cc01,cc02,fc00,fc01,fc02⟩:=Xc0.out.c3;have lc0:=Xc0.out.lt
 go_wp2_with fail
 clear ca00 ca01 ca02 fa00 fa01 fa02 la0 cb00 cb01 cb02 fb00 fb01 fb02 lb0 cc00 cc01 cc02 fc00 fc01 fc02 lc0;have Hna:=lH (iK Hna.out (Keep.drew w2));have Hda:=lH (iK Hda.out (Keep.drew w2));have Hnb:=lH (iK Hnb.out (Keep.drew w2));have Hdb:=lH (iK Hdb.out (Keep.drew w2));have Xa0:=lH (Box.drew Xa0.out);have Xb0:=lH (Box.drew Xb0.out);have Xc0:=lH (Box.drew Xc0.out);have HB:=lH (Below.drew HB.out);refine wp_region_float [w.heap.size+1+1] [] (by kernel_rfl) (by kernel_rfl) 26 (by kernel_rfl) Flok.nil ?_;intro ok;have Hok:=lH ok;clear ok;have HG:=lH (bR_ (w2.drew).heap.size (w2.drew));refine good_pureX 0 (some 10) (Go.Op.fieldAddr 34 (Go.Operand.tmp 2) 0) (none) (.pointer (some ⟨w.heap.size,0,none⟩)) (by kernel_rfl) (by kernel_rfl) (by kernel_rfl) (fun _ _ _ h=>h) (fun w' hw'=> ?_) ?_
 ·first|(go_simp;done)|(go_simp;simp_all;done)|(go_simp;rfl)
 simp only[Act.put,sI,sZ,sS];refine good_pureX 1 (some 11) (Go.Op.load 4 (Go.Operand.tmp 10)) (none) (.bool ba) (by kernel_rfl) (by kernel_rfl) (by kernel_rfl) (fun _ _ _ h=>h) (fun w' hw'=> ?_) ?_
 ·obtain⟨ca00,ca01,ca02,fa00,fa01,fa02⟩:=(Box.se hw' Xa0.out (notin1 (by omega))).c3
  first|(go_simp;done)|(go_simp;simp_all;done)|(go_simp;rfl)
 simp only[Act.put,sI,sZ,sS];refine good_pureX 2 (some 12) (Go.Op.fieldAddr 34 (Go.Operand.tmp 3) 0) (none) (.pointer (some ⟨w.heap.size+1,0,none⟩)) (by kernel_rfl) (by kernel_rfl) (by kernel_rfl) (fun _ _ _ h=>h) (fun w' hw'=> ?_) ?_
 ·first|(go_simp;done)|(go_simp;simp_all;done)|(go_simp;rfl)
 simp only[Act.put,sI,sZ,sS];refine good_pureX 3 (some 13) (Go.Op.load 4 (Go.Operand.tmp 12)) (none) (.bool bb) (by kernel_rfl) (by kernel_rfl) (by kernel_rfl) (fun _ _ _ h=>h) (fun w' hw'=> ?_) ?_
 ·obtain⟨cb00,cb01,cb02,fb00,fb01,fb02⟩:=(Box.se hw' Xb0.out (notin1 (by omega))).c3
  first|(go_simp;done)|(go_simp;simp_all;done)|(go_simp;rfl)
 simp only[Act.put,sI,sZ,sS];refine good_pureX 4 (some 14) (Go.Op.binOp Go.BinOp.neq 4 (Go.Operand.tmp 11) (Go.Operand.tmp 13) 4) (none) (.bool (!ba==bb)) (by kernel_rfl) (by kernel_rfl) (by kernel_rfl) (fun _ _ _ h=>h) (fun w' hw'=> ?_) ?_
 ·first|(go_simp;done)|(go_simp;simp_all;done)|(go_simp;rfl)
 simp only[Act.put,sI,sZ,sS];refine good_pureX 5 (some 15) (Go.Op.fieldAddr 34 (Go.Operand.tmp 2) 1) (none) (.pointer (some ⟨w.heap.size,1,none⟩)) (by kernel_rfl) (by kernel_rfl) (by kernel_rfl) (fun _ _ _ h=>h) (fun w' hw'=> ?_) ?_
 ·first|(go_simp;done)|(go_simp;simp_all;done)|(go_simp;rfl)
 simp only[Act.put,sI,sZ,sS];refine good_pureX 6 (some 16) (Go.Op.load 32 (Go.Operand.tmp 15)) (none) (sa) (by kernel_rfl) (by kernel_rfl) (by kernel_rfl) (fun _ _ _ h=>h) (fun w' hw'=> ?_) ?_
 ·obtain⟨ca00,ca01,ca02,fa00,fa01,fa02⟩:=(Box.se hw' Xa0.out (notin1 (by omega))).c3
  first|(go_simp;done)|(go_simp;simp_all;done)|(go_simp;rfl)
 simp only[Act.put,sI,sZ,sS];refine good_pureX 7 (some 17) (Go.Op.load 34 (Go.Operand.tmp 3)) (none) (.agg #[.bool bb,sb,tb]) (by kernel_rfl) (by kernel_rfl) (by kernel_rfl) (fun _ _ _ h=>h) (fun w' hw'=> ?_) ?_
 ·obtain⟨cb00,cb01,cb02,fb00,fb01,fb02⟩:=(Box.se hw' Xb0.out (notin1 (by omega))).c3
  first|(go_simp;done)|(go_simp;simp_all;done)|(go_simp;rfl)
 simp only[Act.put,sI,sZ,sS];refine good_pureX 10 (some 20) (Go.Op.load 34 (Go.Operand.tmp 2)) (none) (.agg #[.bool ba,sa,ta]) (by kernel_rfl) (by kernel_rfl) (by kernel_rfl) (fun _ _ _ h=>h) (fun w' hw'=> ?_) ?_
 ·obtain⟨ca00,ca01,ca02,fa00,fa01,fa02⟩:=(Box.se hw' Xa0.out (notin1 (by omega))).c3
  first|(go_simp;done)|(go_simp;simp_all;done)|(go_simp;rfl)
 simp only[Act.put,sI,sZ,sS];refine good_pureX 12 (some 22) (Go.Op.fieldAddr 34 (Go.Operand.tmp 3) 1) (none) (.pointer (some ⟨w.heap.size+1,1,none⟩)) (by kernel_rfl) (by kernel_rfl) (by kernel_rfl) (fun _ _ _ h=>h) (fun w' hw'=> ?_) ?_
 ·first|(go_simp;done)|(go_simp;simp_all;done)|(go_simp;rfl)
 simp only[Act.put,sI,sZ,sS];refine good_pureX 13 (some 23) (Go.Op.load 32 (Go.Operand.tmp 22)) (none) (sb) (by kernel_rfl) (by kernel_rfl) (by kernel_rfl) (fun _ _ _ h=>h) (fun w' hw'=> ?_) ?_
 ·obtain⟨cb00,cb01,cb02,fb00,fb01,fb02⟩:=(Box.se hw' Xb0.out (notin1 (by omega))).c3
  first|(go_simp;done)|(go_simp;simp_all;done)|(go_simp;rfl)
 simp only[Act.put,sI,sZ,sS];refine good_callX 8 121 (some 18) #[Go.Operand.tmp 17] #[34] (none) #[.agg #[.bool bb,sb,tb]] (by kernel_rfl) Hok.out (by kernel_rfl) (by kernel_rfl) (by kernel_rfl) (by kernel_rfl) rfl rfl rfl (by kernel_rfl) (fun w3 hb=> ?_);have HG:=lH (bC HG.out hb);clear hb
 (first|(have hcall:=under_is (b:=bb) (iK Hdb.out (kC HG.out)) (by omega);refine cM hcall ?_;clear hcall)|refine cM (under_is (b:=bb) (iK Hdb.out (kC HG.out)) (by omega)) ?_)
 rintro e w4 ⟨v4,rfl,hq,hb⟩;obtain⟨q_a,q_n,q_c,rfl⟩:=hq.lit;refine⟨_,rfl,?_,hb⟩;have HG:=lH (bC HG.out hb);have Hq:=lH hq;clear hb hq;simp only[Act.put,sI,sZ,sS];refine good_callX 9 143 (some 19) #[Go.Operand.tmp 16,Go.Operand.tmp 18] #[32,32] (none) #[sa,.slice q_a q_n q_c] (by kernel_rfl) Hok.out (by kernel_rfl) (by kernel_rfl) (by kernel_rfl) (by kernel_rfl) rfl rfl rfl (by kernel_rfl) (fun w5 hb=> ?_);have Hq:=lH (iK Hq.out (kC hb));have HG:=lH (bC HG.out hb);clear hb
 (first|(have hcall:=mul_is (iK Hna.out (kC HG.out)) Hq.out (by omega) (by omega);refine cM hcall ?_;clear hcall)|refine cM (mul_is (iK Hna.out (kC HG.out)) Hq.out (by omega) (by omega)) ?_)
 rintro e w6 ⟨v6,rfl,hx,hb⟩;obtain⟨x_a,x_n,x_c,rfl⟩:=hx.is.lit;refine⟨_,rfl,?_,hb⟩;have HG:=lH (bC HG.out hb);have Hx:=lH hx;clear hb hx;simp only[Act.put,sI,sZ,sS];refine good_callX 11 121 (some 21) #[Go.Operand.tmp 20] #[34] (none) #[.agg #[.bool ba,sa,ta]] (by kernel_rfl) Hok.out (by kernel_rfl) (by kernel_rfl) (by kernel_rfl) (by kernel_rfl) rfl rfl rfl (by kernel_rfl) (fun w7 hb=> ?_);have Hx:=lH (Can.keep Hx.out (kC hb));have HG:=lH (bC HG.out hb);clear hb
 (first|(have hcall:=under_is (b:=ba) (iK Hda.out (kC HG.out)) (by omega);refine cM hcall ?_;clear hcall)|refine cM (under_is (b:=ba) (iK Hda.out (kC HG.out)) (by omega)) ?_)
 rintro e w8 ⟨v8,rfl,hp,hb⟩;obtain⟨p_a,p_n,p_c,rfl⟩:=hp.lit;refine⟨_,rfl,?_,hb⟩;have Hx:=lH (Can.keep Hx.out (kC hb));have HG:=lH (bC HG.out hb);have Hp:=lH hp;clear hb hp;simp only[Act.put,sI,sZ,sS];refine good_callX 14 143 (some 24) #[Go.Operand.tmp 21,Go.Operand.tmp 23] #[32,32] (none) #[.slice p_a p_n p_c,sb] (by kernel_rfl) Hok.out (by kernel_rfl) (by kernel_rfl) (by kernel_rfl) (by kernel_rfl) rfl rfl rfl (by kernel_rfl) (fun w9 hb=> ?_);have Hx:=lH (Can.keep Hx.out (kC hb));have Hp:=lH (iK Hp.out (kC hb));have HG:=lH (bC HG.out hb);clear hb
 (first|(have hcall:=mul_is Hp.out (iK Hnb.out (kC HG.out)) (by omega) (by omega);refine cM hcall ?_;clear hcall)|refine cM (mul_is Hp.out (iK Hnb.out (kC HG.out)) (by omega) (by omega)) ?_)
 rintro e w10 ⟨v10,rfl,hy,hb⟩;obtain⟨y_a,y_n,y_c,rfl⟩:=hy.is.lit;refine⟨_,rfl,?_,hb⟩;have Hx:=lH (Can.keep Hx.out (kC hb));have HG:=lH (bC HG.out hb);have Hy:=lH hy;clear hb hy;simp only[Act.put,sI,sZ,sS];refine good_callX 15 118 (some 25) #[Go.Operand.tmp 14,Go.Operand.tmp 19,Go.Operand.tmp 24] #[4,32,32] (none) #[.bool (!ba==bb),.slice x_a x_n x_c,.slice y_a y_n y_c] (by kernel_rfl) Hok.out (by kernel_rfl) (by kernel_rfl) (by kernel_rfl) (by kernel_rfl) rfl rfl rfl (by kernel_rfl) (fun w11 hb=> ?_);have Hx:=lH (Can.keep Hx.out (kC hb));have Hy:=lH (Can.keep Hy.out (kC hb));have HG:=lH (bC HG.out hb);clear hb;refine cM (quot_is (neg:=(!ba==bb)) (Nat.mul_pos (un_pos _) Hp0.out) Hx.out.is Hy.out.is (by omega) (by omega)) ?_;rintro e w12 ⟨v12,rfl,hz,hb⟩;obtain⟨z_b,z_a,z_n,z_c,z_d,z_m,z_e,rfl⟩:=hz.litb;refine⟨_,rfl,?_,hb⟩;have HG:=lH (bC HG.out hb);have Hz:=lH hz;clear hb hz;simp only[Act.put,sI,sZ,sS];refine good_end0 2 (by kernel_rfl) (fun _ w13 hb=> ?_);have Hz:=lH (CR.keep Hz.out (kC hb));have HG:=lH (bC HG.out hb);clear hb;have Xa0:=lH (xP HG.out Xa0.out);have Xb0:=lH (xP HG.out Xb0.out);have Xc0:=lH (xP HG.out Xc0.out);have HB:=lH (bC HB.out HG.out);have HS:=lH (SE.of (E:=[w.heap.size+1+1]) HG.out);refine held_oneX 16 (Go.Op.store 34 (Go.Operand.tmp 4) (Go.Operand.tmp 25)) (none) (World.setCell (World.setCell (World.setCell w13 ⟨w.heap.size+1+1,0,none⟩ (.bool z_b)) ⟨w.heap.size+1+1,1,none⟩ (.slice z_a z_n z_c)) ⟨w.heap.size+1+1,2,none⟩ (.slice z_d z_m z_e)) (by kernel_rfl) (by kernel_rfl) (by kernel_rfl) (by kernel_rfl) ?_ (HS.out.store3 in1) ?_
 ·obtain⟨cc00,cc01,cc02,fc00,fc01,fc02⟩:=Xc0.out.c3
  first|(go_simp;done)|(go_simp;simp_all;done)|(go_simp;rfl)
 obtain⟨W14,hW⟩:∃W14,W14=(World.setCell (World.setCell (World.setCell w13 ⟨w.heap.size+1+1,0,none⟩ (.bool z_b)) ⟨w.heap.size+1+1,1,none⟩ (.slice z_a z_n z_c)) ⟨w.heap.size+1+1,2,none⟩ (.slice z_d z_m z_e)):=⟨_,rfl⟩;rw[←hW];obtain⟨xc0,hk,hf,hbb,hz⟩:=stored3s hW Xc0.out (by first|exact nB_ _|exact nS_ _ _ _) (by first|exact nB_ _|exact nS_ _ _ _) (by first|exact nB_ _|exact nS_ _ _ _);have Hz:=lH (CR.keep Hz.out hk);have Xa0:=lH (hf _ _ _ Xa0.out (by omega));have Xb0:=lH (hf _ _ _ Xb0.out (by omega));have Xc0:=lH xc0;have HB:=lH (hbb _ HB.out Gc0.out);have HS:=lH (show SE (w2.drew) [w.heap.size+1+1] W14 from by rw[hW];exact HS.out.store3 in1);clear hW hk hf hbb xc0;clear hz;refine held_pureX 17 (some 5) (Go.Op.assign (Go.Operand.const (Go.Value.int Go.IntKind.i64 0))) (none) (.int .i64 0) (by kernel_rfl) (by kernel_rfl) (by kernel_rfl) (fun _ _ _ h=>h) (fun w'=>by first|(go_simp;done)|(go_simp;simp_all;done)|(go_simp;rfl)) HS.out ?_;simp only[Act.put,sI,sZ,sS];refine wpAnyH_done (by kernel_rfl) ?_ _;clear HG HS Hok;obtain⟨ca00,ca01,ca02,fa00,fa01,fa02⟩:=Xa0.out.c3;have la0:=Xa0.out.lt;obtain⟨cb00,cb01,cb02,fb00,fb01,fb02⟩:=Xb0.out.c3;have lb0:=Xb0.out.lt;obtain⟨cc00,cc01,cc02,fc00,fc01,fc02⟩:=Xc0.out.c3;have lc0:=Xc0.out.lt;go_wp2;clear ca00 ca01 ca02 fa00 fa01 fa02 la0 cb00 cb01 cb02 fb00 fb01 fb02 lb0 cc00 cc01 cc02 fc00 fc01 fc02 lc0;exact ret_re rfl rfl rfl rfl Xc0.out ⟨_,rfl,CR.mono (CR.cast (div_parts _ _ _ _ _ _ Hp0.out) Hz.out) (by omega)⟩ HB.out
theorem rdiv_ar {a b:Rat}{L M:Nat}{u v:Value}{w:World}(h0:b≠0)(h:AR a L w u)(h':AR b M w v)(hL:L≤100000000)(hM:M≤100000000):
  Calls Tryz.prog 215 #[u,v] w (Ret w (CRE (a/b) (L+M+2) 0)):=by
 obtain⟨ba,sa,ta,na,da,rfl,h1,h2,rfl⟩:=h;obtain⟨bb,sb,tb,nb,db,rfl,h3,h4,rfl⟩:=h';have hp:0<nb:=by
  rcases eP_ nb with rfl|h0'
  ·exact absurd (by unfold rv;rw[show iv bb 0=0 by cases bb<;>rfl];exact Rat.zero_mkRat _) h0
  ·exact h0'
 exact rdiv_1 _ rfl (by cases bb<;>simp[iv,Int.sign_eq_zero_iff_zero]<;>omega) hp h1 h2 h3 h4 hL hM
theorem rmax_t {L M:Nat}{qa:Rat}{ba:Bool}{sa ta:Value}{qb:Rat}{bb:Bool}{sb tb:Value}{w:World}(k:Int)(hk:cmpQ qa qb=k)(hk0:decide (0≤k)=true)(ha:AR qa L w (.agg #[.bool ba,sa,ta]))(hb:AR qb M w (.agg #[.bool bb,sb,tb]))(hL:L≤100000000)(hM:M≤100000000):
  Calls Tryz.prog 202 #[.agg #[.bool ba,sa,ta],.agg #[.bool bb,sb,tb]] w (Ret w (CR qa (max L 1))):=by
 have Ha:=lH ha;have Hb:=lH hb;have Hk:=lH hk;have Hk0:=lH hk0;clear ha hb hk hk0
 go_enter Tryz.func202,Tryz.ntmps202
 have HB:=lH (bR_ w.heap.size w)
 go_wp2_with fail
 obtain⟨W1,hW⟩:∃W1,W1=(World.alloc (World.alloc (World.alloc w (.cells #[.bool ba,sa,ta] 34)) (.cells #[.bool bb,sb,tb] 34)) (.cells #[.bool false,.slice none 0 0,.slice none 0 0] 34)):=⟨_,rfl⟩;rw[←hW];obtain⟨xa0,xb0,xc0,hk,hb⟩:=boxes_3 _ _ _ _ _ _ _ hW;clear hW;have Ha:=lH (AR.keep Ha.out hk);have Hb:=lH (AR.keep Hb.out hk);have Ga0:=lH (show w.heap.size≤w.heap.size from tL_ HB.out.size (by omega));have Gb0:=lH (show w.heap.size≤w.heap.size+1 from tL_ HB.out.size (by omega));have Gc0:=lH (show w.heap.size≤w.heap.size+1+1 from tL_ HB.out.size (by omega));have Xa0:=lH xa0;have Xb0:=lH xb0;have Xc0:=lH xc0;have HB:=lH (bC HB.out hb);clear hk hb xa0 xb0 xc0
 (first|(have hcall:=rcmp_ar k Ha.out Hb.out Hk.out (by omega) (by omega);refine cM hcall ?_;clear hcall)|refine cM (rcmp_ar k Ha.out Hb.out Hk.out (by omega) (by omega)) ?_)
 rintro e w2 ⟨v2,rfl,rfl,hb⟩;have Ha:=lH (AR.keep Ha.out (kC hb));have Xa0:=lH (xP hb Xa0.out);have Xb0:=lH (xP hb Xb0.out);have Xc0:=lH (xP hb Xc0.out);have HB:=lH (bC HB.out hb);clear hb;have hk0:decide (0≤k)=true:=Hk0.out;obtain⟨ca00,ca01,ca02,fa00,fa01,fa02⟩:=Xa0.out.c3;have la0:=Xa0.out.lt;obtain⟨cb00,cb01,cb02,fb00,fb01,fb02⟩:=Xb0.out.c3;have lb0:=Xb0.out.lt;obtain⟨cc00,cc01,cc02,fc00,fc01,fc02⟩:=Xc0.out.c3;have lc0:=Xc0.out.lt
 go_wp2_with fail
 clear ca00 ca01 ca02 fa00 fa01 fa02 la0 cb00 cb01 cb02 fb00 fb01 fb02 lb0 cc00 cc01 cc02 fc00 fc01 fc02 lc0
 (first|(have hcall:=canon_ar Ha.out (by omega);refine cM hcall ?_;clear hcall)|refine cM (canon_ar Ha.out (by omega)) ?_)
 rintro e w3 ⟨v3,rfl,hz,hb⟩;obtain⟨z_b,z_a,z_n,z_c,z_d,z_m,z_e,rfl⟩:=hz.litb;have Xa0:=lH (xP hb Xa0.out);have Xb0:=lH (xP hb Xb0.out);have Xc0:=lH (xP hb Xc0.out);have HB:=lH (bC HB.out hb);have Hz:=lH hz;clear hb hz;obtain⟨ca00,ca01,ca02,fa00,fa01,fa02⟩:=Xa0.out.c3;have la0:=Xa0.out.lt;obtain⟨cb00,cb01,cb02,fb00,fb01,fb02⟩:=Xb0.out.c3;have lb0:=Xb0.out.lt;obtain⟨cc00,cc01,cc02,fc00,fc01,fc02⟩:=Xc0.out.c3;have lc0:=Xc0.out.lt;go_wp2;clear ca00 ca01 ca02 fa00 fa01 fa02 la0 cb00 cb01 cb02 fb00 fb01 fb02 lb0 cc00 cc01 cc02 fc00 fc01 fc02 lc0;obtain⟨W4,hW⟩:∃W4,W4=(World.setCell (World.setCell (World.setCell w3 ⟨w.heap.size+1+1,0,none⟩ (.bool z_b)) ⟨w.heap.size+1+1,1,none⟩ (.slice z_a z_n z_c)) ⟨w.heap.size+1+1,2,none⟩ (.slice z_d z_m z_e)):=⟨_,rfl⟩;rw[←hW];obtain⟨xc0,hk,hf,hbb,hz⟩:=stored3s hW Xc0.out (by first|exact nB_ _|exact nS_ _ _ _) (by first|exact nB_ _|exact nS_ _ _ _) (by first|exact nB_ _|exact nS_ _ _ _);have Hz:=lH (CR.keep Hz.out hk);have Xa0:=lH (hf _ _ _ Xa0.out (by omega));have Xb0:=lH (hf _ _ _ Xb0.out (by omega));have Xc0:=lH xc0;have HB:=lH (hbb _ HB.out Gc0.out);clear hW hk hf hbb xc0;clear hz;exact ret_rat1 rfl rfl rfl Xc0.out Hz.out HB.out
theorem rmax_f {L M:Nat}{qa:Rat}{ba:Bool}{sa ta:Value}{qb:Rat}{bb:Bool}{sb tb:Value}{w:World}(k:Int)(hk:cmpQ qa qb=k)(hk0:decide (0≤k)=false)(ha:AR qa L w (.agg #[.bool ba,sa,ta]))(hb:AR qb M w (.agg #[.bool bb,sb,tb]))(hL:L≤100000000)(hM:M≤100000000):
  Calls Tryz.prog 202 #[.agg #[.bool ba,sa,ta],.agg #[.bool bb,sb,tb]] w (Ret w (CR qb (max M 1))):=by
 have Ha:=lH ha;have Hb:=lH hb;have Hk:=lH hk;have Hk0:=lH hk0;clear ha hb hk hk0
 go_enter Tryz.func202,Tryz.ntmps202
 have HB:=lH (bR_ w.heap.size w)
 go_wp2_with fail
 obtain⟨W1,hW⟩:∃W1,W1=(World.alloc (World.alloc (World.alloc w (.cells #[.bool ba,sa,ta] 34)) (.cells #[.bool bb,sb,tb] 34)) (.cells #[.bool false,.slice none 0 0,.slice none 0 0] 34)):=⟨_,rfl⟩;rw[←hW];obtain⟨xa0,xb0,xc0,hk,hb⟩:=boxes_3 _ _ _ _ _ _ _ hW;clear hW;have Ha:=lH (AR.keep Ha.out hk);have Hb:=lH (AR.keep Hb.out hk);have Ga0:=lH (show w.heap.size≤w.heap.size from tL_ HB.out.size (by omega));have Gb0:=lH (show w.heap.size≤w.heap.size+1 from tL_ HB.out.size (by omega));have Gc0:=lH (show w.heap.size≤w.heap.size+1+1 from tL_ HB.out.size (by omega));have Xa0:=lH xa0;have Xb0:=lH xb0;have Xc0:=lH xc0;have HB:=lH (bC HB.out hb);clear hk hb xa0 xb0 xc0
 (first|(have hcall:=rcmp_ar k Ha.out Hb.out Hk.out (by omega) (by omega);refine cM hcall ?_;clear hcall)|refine cM (rcmp_ar k Ha.out Hb.out Hk.out (by omega) (by omega)) ?_)
 rintro e w2 ⟨v2,rfl,rfl,hb⟩;have Hb:=lH (AR.keep Hb.out (kC hb));have Xa0:=lH (xP hb Xa0.out);have Xb0:=lH (xP hb Xb0.out);have Xc0:=lH (xP hb Xc0.out);have HB:=lH (bC HB.out hb);clear hb;have hk0:decide (0≤k)=false:=Hk0.out;obtain⟨ca00,ca01,ca02,fa00,fa01,fa02⟩:=Xa0.out.c3;have la0:=Xa0.out.lt;obtain⟨cb00,cb01,cb02,fb00,fb01,fb02⟩:=Xb0.out.c3;have lb0:=Xb0.out.lt;obtain⟨cc00,cc01,cc02,fc00,fc01,fc02⟩:=Xc0.out.c3;have lc0:=Xc0.out.lt
 go_wp2_with fail
 clear ca00 ca01 ca02 fa00 fa01 fa02 la0 cb00 cb01 cb02 fb00 fb01 fb02 lb0 cc00 cc01 cc02 fc00 fc01 fc02 lc0
 (first|(have hcall:=canon_ar Hb.out (by omega);refine cM hcall ?_;clear hcall)|refine cM (canon_ar Hb.out (by omega)) ?_)
 rintro e w3 ⟨v3,rfl,hz,hb⟩;obtain⟨z_b,z_a,z_n,z_c,z_d,z_m,z_e,rfl⟩:=hz.litb;have Xa0:=lH (xP hb Xa0.out);have Xb0:=lH (xP hb Xb0.out);have Xc0:=lH (xP hb Xc0.out);have HB:=lH (bC HB.out hb);have Hz:=lH hz;clear hb hz;obtain⟨ca00,ca01,ca02,fa00,fa01,fa02⟩:=Xa0.out.c3;have la0:=Xa0.out.lt;obtain⟨cb00,cb01,cb02,fb00,fb01,fb02⟩:=Xb0.out.c3;have lb0:=Xb0.out.lt;obtain⟨cc00,cc01,cc02,fc00,fc01,fc02⟩:=Xc0.out.c3;have lc0:=Xc0.out.lt;go_wp2;clear ca00 ca01 ca02 fa00 fa01 fa02 la0 cb00 cb01 cb02 fb00 fb01 fb02 lb0 cc00 cc01 cc02 fc00 fc01 fc02 lc0;obtain⟨W4,hW⟩:∃W4,W4=(World.setCell (World.setCell (World.setCell w3 ⟨w.heap.size+1+1,0,none⟩ (.bool z_b)) ⟨w.heap.size+1+1,1,none⟩ (.slice z_a z_n z_c)) ⟨w.heap.size+1+1,2,none⟩ (.slice z_d z_m z_e)):=⟨_,rfl⟩;rw[←hW];obtain⟨xc0,hk,hf,hbb,hz⟩:=stored3s hW Xc0.out (by first|exact nB_ _|exact nS_ _ _ _) (by first|exact nB_ _|exact nS_ _ _ _) (by first|exact nB_ _|exact nS_ _ _ _);have Hz:=lH (CR.keep Hz.out hk);have Xa0:=lH (hf _ _ _ Xa0.out (by omega));have Xb0:=lH (hf _ _ _ Xb0.out (by omega));have Xc0:=lH xc0;have HB:=lH (hbb _ HB.out Gc0.out);clear hW hk hf hbb xc0;clear hz;exact ret_rat1 rfl rfl rfl Xc0.out Hz.out HB.out
theorem rmax_ar {a b:Rat}{L M:Nat}{u v:Value}{w:World}(h:AR a L w u)(h':AR b M w v)(hL:L≤100000000)(hM:M≤100000000):Calls Tryz.prog 202 #[u,v] w (Ret w (CR (if b≤a then a else b) (max (max L M) 1))):=by
 obtain⟨ba,sa,ta,rfl⟩:=h.agg;obtain⟨bb,sb,tb,rfl⟩:=h'.agg
 by_cases hc:b≤a
 ·rw[if_pos hc];exact(rmax_t _ rfl (by simpa using cmpQ_ge.2 hc) h h' hL hM).mono fun e w' k=>k.imp fun _ _ x=>x.mono (by omega)
 ·rw[if_neg hc];exact(rmax_f _ rfl (by simpa using mt cmpQ_ge.1 hc) h h' hL hM).mono fun e w' k=>k.imp fun _ _ x=>x.mono (by omega)
theorem r3one_is {d L:Nat}{t:Value}{w:World}(h:Is d L w t):Calls Tryz.prog 73 #[t] w (Ret w (Is (un d) (max L 1))):=by
 rcases eP_ d with h0|h0
 ·go_enter Tryz.func73,Tryz.ntmps73
  go_wp2_with fail
  refine cM (rmake_is h) ?_;rintro e w1 ⟨v1,rfl,hn,hb⟩;obtain⟨a,n,c,rfl⟩:=hn.is.lit;have dx:((n:Int)==0)=true:=hn.len0 true (by rw[h0];rfl);have HB:=lH hb;have H0:=lH h0;clear hb hn h0;go_wp2
  go_ret
  exact⟨_,rfl,Is.cast (un_zero H0.out) (Is.mono (Is.one _ _) (Nat.le_max_right _ _)),HB.out.alloc HB.out.size _⟩
 ·go_enter Tryz.func73,Tryz.ntmps73
  go_wp2_with fail
  refine cM (rmake_is h) ?_;rintro e w1 ⟨v1,rfl,hn,hb⟩;obtain⟨a,n,c,rfl⟩:=hn.is.lit;have dx:((n:Int)==0)=false:=hn.len0 false (beq_eq_false_iff_ne.2 (Nat.ne_of_gt h0));have HB:=lH hb;have Hn:=lH hn;clear hb hn;go_wp2
  go_ret
  exact⟨_,rfl,Is.cast (un_of h0) (Is.mono Hn.out.is (Nat.le_max_left _ _)),HB.out⟩
theorem rdivmod_pos {a b L M:Nat}{u v:Value}{w:World}(hb:0<b)(h:Is a L w u)(h':Is b M w v)(hL:L≤2147483648)(hM:M≤2147483648):
  Calls Tryz.prog 108 #[u,v] w (Ret w (Can2E (a/b) (a % b) L L 0)):=by
 have hs:=h.sz_le;obtain⟨xs,h,rfl,hl⟩:=h;obtain⟨ys,h',rfl,hl'⟩:=h';have:=rdivmod_any _ _ _ _ _ h h' (by omega) (by omega);rw[dmR_pos hb,dmE_pos hb]at this;refine this.mono ?_;rintro e w' ⟨v,rfl,⟨q,r,rfl,h1,h2⟩,hB⟩;exact⟨_,rfl,⟨_,_,rfl,⟨h1,tL_ (sz_div _ _) hs⟩,⟨h2,tL_ (sz_mono (Nat.mod_le _ _)) hs⟩⟩,hB⟩
def PU1 (q L:Nat)(w:World)(v:Value):Prop:=∃b o c r,v= .tuple #[.slice (some ⟨b,o,none⟩) 1 c,r,.int .i64 0]∧Can q L w (.slice (some ⟨b,o,none⟩) 1 c)∧w.cell? ⟨b,o,none⟩=some (.int .u32 1)
def PUN (q L:Nat)(w:World)(v:Value):Prop:=∃a n c r,v= .tuple #[.slice a n c,r,.int .i64 0]∧Can q L w (.slice a n c)∧((n:Int)==1)=false
def PUK (q L:Nat)(w:World)(v:Value):Prop:=∃b o c r,∃k:Int,v= .tuple #[.slice (some ⟨b,o,none⟩) 1 c,r,.int .i64 0]∧Can q L w (.slice (some ⟨b,o,none⟩) 1 c)∧w.cell? ⟨b,o,none⟩=some (.int .u32 k)∧(k==1)=false
theorem one_limb {q L:Nat}{w:World}{v:Value}(hl:((sz q:Nat):Int)=1)(h:Can q L w v):∃b o c,v= .slice (some ⟨b,o,none⟩) 1 c∧w.cell? ⟨b,o,none⟩=some (.int .u32 (q:Int)):=by
 obtain⟨⟨ad,n,cap,rfl,hn,hnc,hm,hx,hs⟩,-⟩:=h;have hz:sz q=1:=by omega
 obtain rfl:n=1:=by unfold sz at hz;omega
 obtain⟨b,off,rfl,hb,hc⟩:=hs (by decide);have h0:0<q:=by
  rcases eP_ q with rfl|h0
  ·rw[sz_zero]at hz;omega
  ·exact h0
 have h1:q<4294967296:=by
  have:=val_lt (xs:=limbs q) hx;rw[val_limbs,hn]at this;simpa using this
 have:=hc 0 (by decide);rw[limbs_single h0 h1]at this;exact⟨b,off,cap,rfl,this⟩
theorem rdivmod_u1 {a b L M:Nat}{u v:Value}{w:World}(hb:0<b)(he:(a/b==1)=true)(h:Is a L w u)(h':Is b M w v)(hL:L≤2147483648)(hM:M≤2147483648):
  Calls Tryz.prog 108 #[u,v] w (Ret w (PU1 (a/b) L)):=by
 have e1:a/b=1:=by simpa using he
 refine(rdivmod_pos hb h h' hL hM).mono fun _ _ k=>k.imp fun w' x hx=> ?_;obtain⟨q,r,rfl,h1,h2⟩:=hx;rw[e1]at h1 ⊢;obtain⟨bb,o,c,rfl,hc⟩:=one_limb (by rw[show sz 1=1 by unfold sz;rw[limbs_single (by decide) (by decide)];rfl];rfl) h1;exact⟨_,_,_,_,rfl,h1,hc⟩
theorem rdivmod_un {a b L M:Nat}{u v:Value}{w:World}(hb:0<b)(he:((sz (a/b):Nat):Int)≠1)(h:Is a L w u)(h':Is b M w v)(hL:L≤2147483648)(hM:M≤2147483648):
  Calls Tryz.prog 108 #[u,v] w (Ret w (PUN (a/b) L)):=by
 refine(rdivmod_pos hb h h' hL hM).mono fun _ _ k=>k.imp fun w' x hx=> ?_;obtain⟨q,r,rfl,h1,h2⟩:=hx;obtain⟨bb,n,c,rfl⟩:=h1.is.lit;exact⟨_,_,_,_,rfl,h1,by rw[h1.len];simpa using he⟩
theorem rdivmod_uk {a b L M:Nat}{u v:Value}{w:World}(hb:0<b)(he:(a/b==1)=false)(hl:((sz (a/b):Nat):Int)=1)(h:Is a L w u)(h':Is b M w v)(hL:L≤2147483648)(hM:M≤2147483648):
  Calls Tryz.prog 108 #[u,v] w (Ret w (PUK (a/b) L)):=by
 refine(rdivmod_pos hb h h' hL hM).mono fun _ _ k=>k.imp fun w' x hx=> ?_;obtain⟨q,r,rfl,h1,h2⟩:=hx;obtain⟨bb,o,c,rfl,hc⟩:=one_limb hl h1;refine⟨_,_,_,_,_,rfl,h1,hc,?_⟩;rw[beq_eq_false_iff_ne];have:a/b≠1:=by simpa using he
 omega
theorem Can.pos {m L:Nat}{w:World}{a:Option Addr}{n c:Nat}(h:Can m L w (.slice a n c))(hm:0<m):decide (0<n)=true:=by
 rw[h.len];simpa using sz_pos hm
theorem Can.posF {m L:Nat}{w:World}{a:Option Addr}{n c:Nat}(h:Can m L w (.slice a n c))(hm:m=0):decide (0<n)=false:=by
 rw[h.len,hm,sz_zero];rfl
theorem num_pos {n d:Nat}(h:0<n):0<n/Nat.gcd n d:=Nat.div_pos (Nat.le_of_dvd h (Nat.gcd_dvd_left n d)) (Nat.gcd_pos_of_pos_left d h)
theorem den_zero {n d:Nat}(hz:n=0)(hd:0<d):(d/Nat.gcd n d==1)=true:=by
 rw[hz,Nat.gcd_zero_left,Nat.div_self hd];rfl
theorem rquot_zero {neg:Bool}{n d L M:Nat}{w W:World}{s t:Value}(hz:n=0)(hd:0<d)(hs:Can (n/Nat.gcd n d) L W s)(h:Is d M w t):CR (mkRat (iv neg n) d) (max L M) W (.agg #[.bool false,s,.slice none 0 0]):=by
 have h1:=one_le_of_is hd h;rw[hz,Nat.zero_div]at hs;rw[hz,show iv neg 0=0 by cases neg<;>rfl,Rat.zero_mkRat];refine⟨⟨s,_,rfl,hs.1,?_⟩,?_,?_⟩
 ·show Sl W _ (limbs 0);rw[limbs_zero];exact Sl.nil W
 ·exact sz_zero_le _
 ·exact tL_ (sz_le (by decide):sz 1≤1) (by omega)
theorem r3quot_0t {n d L M:Nat}{s t:Value}{w:World}(hz:n=0)(hn:Is n L w s)(hm:Is d M w t)(hd:0<d)(hL:L≤1000000000)(hM:M≤1000000000):
  Calls Tryz.prog 71 #[.bool true,s,t] w (Ret w (CR (mkRat (iv true n) d) (max L M))):=by
 have Hn:=lH hn;have Hm:=lH hm;have Hd:=lH hd;have Hz:=lH hz;clear hn hm hd hz
 go_enter Tryz.func71,Tryz.ntmps71
 have HB:=lH (bR_ w.heap.size w)
 go_wp2_with fail
 obtain⟨W1,hW⟩:∃W1,W1=(World.alloc w (.cells #[.bool false,.slice none 0 0,.slice none 0 0] 34)):=⟨_,rfl⟩;rw[←hW];obtain⟨xa0,hk,hb⟩:=boxes_1 _ _ _ hW;clear hW;have Hn:=lH (iK Hn.out hk);have Hm:=lH (iK Hm.out hk);have Ga0:=lH (show w.heap.size≤w.heap.size from tL_ HB.out.size (by omega));have Xa0:=lH xa0;have HB:=lH (bC HB.out hb);clear hk hb xa0
 (first|(have hcall:=rgcd_can Hn.out Hm.out (by omega) (by omega);refine cM hcall ?_;clear hcall)|refine cM (rgcd_can Hn.out Hm.out (by omega) (by omega)) ?_)
 rintro e w2 ⟨v2,rfl,hg,hb⟩;obtain⟨g_a,g_n,g_c,rfl⟩:=hg.is.lit;have Hn:=lH (iK Hn.out (kC hb));have Hm:=lH (iK Hm.out (kC hb));have Xa0:=lH (xP hb Xa0.out);have HB:=lH (bC HB.out hb);have Hg:=lH hg;clear hb hg;obtain⟨ca00,ca01,ca02,fa00,fa01,fa02⟩:=Xa0.out.c3;have la0:=Xa0.out.lt
 go_wp2_with fail
 clear ca00 ca01 ca02 fa00 fa01 fa02 la0
 (first|(have hcall:=rdivmod_pos (gcd_pos Hd.out) Hn.out Hg.out.is (by omega) (by omega);refine cM hcall ?_;clear hcall)|refine cM (rdivmod_pos (gcd_pos Hd.out) Hn.out Hg.out.is (by omega) (by omega)) ?_)
 rintro e w3 ⟨t3,rfl,⟨v3,u3,rfl,hqa,hra⟩,hb⟩;obtain⟨qa_a,qa_n,qa_c,rfl⟩:=hqa.is.lit;obtain⟨ra_a,ra_n,ra_c,rfl⟩:=hra.is.lit;have Hm:=lH (iK Hm.out (kC hb));have Hg:=lH (Can.keep Hg.out (kC hb));have Xa0:=lH (xP hb Xa0.out);have HB:=lH (bC HB.out hb);have Hqa:=lH hqa;have Hra:=lH hra;clear hb hqa hra;have hp0:decide (0<qa_n)=false:=Hqa.out.posF (by rw[Hz.out,Nat.zero_div]);obtain⟨ca00,ca01,ca02,fa00,fa01,fa02⟩:=Xa0.out.c3;have la0:=Xa0.out.lt
 go_wp2_with fail
 clear ca00 ca01 ca02 fa00 fa01 fa02 la0
 (first|(have hcall:=rdivmod_u1 (gcd_pos Hd.out) (den_zero Hz.out Hd.out) Hm.out Hg.out.is (by omega) (by omega);refine cM hcall ?_;clear hcall)|refine cM (rdivmod_u1 (gcd_pos Hd.out) (den_zero Hz.out Hd.out) Hm.out Hg.out.is (by omega) (by omega)) ?_)
 rintro e w4 ⟨t4,rfl,⟨qb_b,qb_o,qb_c,u4,rfl,hqb,hcell⟩,hb⟩;have Hm:=lH (iK Hm.out (kC hb));have Hqa:=lH (Can.keep Hqa.out (kC hb));have Xa0:=lH (xP hb Xa0.out);have HB:=lH (bC HB.out hb);have Hqb:=lH hqb;clear hb hqb;obtain⟨ca00,ca01,ca02,fa00,fa01,fa02⟩:=Xa0.out.c3;have la0:=Xa0.out.lt;go_wp2;clear ca00 ca01 ca02 fa00 fa01 fa02 la0;obtain⟨W5,hW⟩:∃W5,W5=(World.setCell (World.setCell (World.setCell w4 ⟨w.heap.size,0,none⟩ (.bool false)) ⟨w.heap.size,1,none⟩ (.slice qa_a qa_n qa_c)) ⟨w.heap.size,2,none⟩ (.slice none 0 0)):=⟨_,rfl⟩;rw[←hW];obtain⟨xa0,hk,hf,hbb,hz⟩:=stored3s hW Xa0.out (by first|exact nB_ _|exact nS_ _ _ _) (by first|exact nB_ _|exact nS_ _ _ _) (by first|exact nB_ _|exact nS_ _ _ _);have Hm:=lH (iK Hm.out hk);have Hqa:=lH (Can.keep Hqa.out hk);have Xa0:=lH xa0;have HB:=lH (hbb _ HB.out Ga0.out);clear hW hk hf hbb xa0;clear hz;exact ret_rat1 rfl rfl rfl Xa0.out (rquot_zero (neg:=true) Hz.out Hd.out Hqa.out Hm.out) HB.out
theorem r3quot_1t {n d L M:Nat}{s t:Value}{w:World}(hz:0<n)(he:(d/Nat.gcd n d==1)=true)(hn:Is n L w s)(hm:Is d M w t)(hd:0<d)(hL:L≤1000000000)(hM:M≤1000000000):
  Calls Tryz.prog 71 #[.bool true,s,t] w (Ret w (CR (mkRat (iv true n) d) (max L M))):=by
 have Hn:=lH hn;have Hm:=lH hm;have Hd:=lH hd;have Hz:=lH hz;have He:=lH he;clear hn hm hd hz he
 go_enter Tryz.func71,Tryz.ntmps71
 have HB:=lH (bR_ w.heap.size w)
 go_wp2_with fail
 obtain⟨W1,hW⟩:∃W1,W1=(World.alloc w (.cells #[.bool false,.slice none 0 0,.slice none 0 0] 34)):=⟨_,rfl⟩;rw[←hW];obtain⟨xa0,hk,hb⟩:=boxes_1 _ _ _ hW;clear hW;have Hn:=lH (iK Hn.out hk);have Hm:=lH (iK Hm.out hk);have Ga0:=lH (show w.heap.size≤w.heap.size from tL_ HB.out.size (by omega));have Xa0:=lH xa0;have HB:=lH (bC HB.out hb);clear hk hb xa0
 (first|(have hcall:=rgcd_can Hn.out Hm.out (by omega) (by omega);refine cM hcall ?_;clear hcall)|refine cM (rgcd_can Hn.out Hm.out (by omega) (by omega)) ?_)
 rintro e w2 ⟨v2,rfl,hg,hb⟩;obtain⟨g_a,g_n,g_c,rfl⟩:=hg.is.lit;have Hn:=lH (iK Hn.out (kC hb));have Hm:=lH (iK Hm.out (kC hb));have Xa0:=lH (xP hb Xa0.out);have HB:=lH (bC HB.out hb);have Hg:=lH hg;clear hb hg;obtain⟨ca00,ca01,ca02,fa00,fa01,fa02⟩:=Xa0.out.c3;have la0:=Xa0.out.lt
 go_wp2_with fail
 clear ca00 ca01 ca02 fa00 fa01 fa02 la0
 (first|(have hcall:=rdivmod_pos (gcd_pos Hd.out) Hn.out Hg.out.is (by omega) (by omega);refine cM hcall ?_;clear hcall)|refine cM (rdivmod_pos (gcd_pos Hd.out) Hn.out Hg.out.is (by omega) (by omega)) ?_)
 rintro e w3 ⟨t3,rfl,⟨v3,u3,rfl,hqa,hra⟩,hb⟩;obtain⟨qa_a,qa_n,qa_c,rfl⟩:=hqa.is.lit;obtain⟨ra_a,ra_n,ra_c,rfl⟩:=hra.is.lit;have Hm:=lH (iK Hm.out (kC hb));have Hg:=lH (Can.keep Hg.out (kC hb));have Xa0:=lH (xP hb Xa0.out);have HB:=lH (bC HB.out hb);have Hqa:=lH hqa;have Hra:=lH hra;clear hb hqa hra;have hp0:decide (0<qa_n)=true:=Hqa.out.pos (num_pos Hz.out);obtain⟨ca00,ca01,ca02,fa00,fa01,fa02⟩:=Xa0.out.c3;have la0:=Xa0.out.lt
 go_wp2_with fail
 clear ca00 ca01 ca02 fa00 fa01 fa02 la0
 (first|(have hcall:=rdivmod_u1 (gcd_pos Hd.out) He.out Hm.out Hg.out.is (by omega) (by omega);refine cM hcall ?_;clear hcall)|refine cM (rdivmod_u1 (gcd_pos Hd.out) He.out Hm.out Hg.out.is (by omega) (by omega)) ?_)
 rintro e w4 ⟨t4,rfl,⟨qb_b,qb_o,qb_c,u4,rfl,hqb,hcell⟩,hb⟩;have Hm:=lH (iK Hm.out (kC hb));have Hqa:=lH (Can.keep Hqa.out (kC hb));have Xa0:=lH (xP hb Xa0.out);have HB:=lH (bC HB.out hb);have Hqb:=lH hqb;clear hb hqb;obtain⟨ca00,ca01,ca02,fa00,fa01,fa02⟩:=Xa0.out.c3;have la0:=Xa0.out.lt;go_wp2;clear ca00 ca01 ca02 fa00 fa01 fa02 la0;obtain⟨W5,hW⟩:∃W5,W5=(World.setCell (World.setCell (World.setCell w4 ⟨w.heap.size,0,none⟩ (.bool true)) ⟨w.heap.size,1,none⟩ (.slice qa_a qa_n qa_c)) ⟨w.heap.size,2,none⟩ (.slice none 0 0)):=⟨_,rfl⟩;rw[←hW];obtain⟨xa0,hk,hf,hbb,hz⟩:=stored3s hW Xa0.out (by first|exact nB_ _|exact nS_ _ _ _) (by first|exact nB_ _|exact nS_ _ _ _) (by first|exact nB_ _|exact nS_ _ _ _);have Hm:=lH (iK Hm.out hk);have Hqa:=lH (Can.keep Hqa.out hk);have Xa0:=lH xa0;have HB:=lH (hbb _ HB.out Ga0.out);clear hW hk hf hbb xa0;clear hz;exact ret_rat1 rfl rfl rfl Xa0.out (quot_three Hz.out Hd.out He.out Hqa.out Hm.out) HB.out
theorem r3quot_2t {n d L M:Nat}{s t:Value}{w:World}(hz:0<n)(he:(d/Nat.gcd n d==1)=false)(hl:((sz (d/Nat.gcd n d):Nat):Int)≠1)(hn:Is n L w s)(hm:Is d M w t)(hd:0<d)(hL:L≤1000000000)(hM:M≤1000000000):
  Calls Tryz.prog 71 #[.bool true,s,t] w (Ret w (CR (mkRat (iv true n) d) (max L M))):=by
 have Hn:=lH hn;have Hm:=lH hm;have Hd:=lH hd;have Hz:=lH hz;have He:=lH he;have Hl:=lH hl;clear hn hm hd hz he hl
 go_enter Tryz.func71,Tryz.ntmps71
 have HB:=lH (bR_ w.heap.size w)
 go_wp2_with fail
 obtain⟨W1,hW⟩:∃W1,W1=(World.alloc w (.cells #[.bool false,.slice none 0 0,.slice none 0 0] 34)):=⟨_,rfl⟩;rw[←hW];obtain⟨xa0,hk,hb⟩:=boxes_1 _ _ _ hW;clear hW;have Hn:=lH (iK Hn.out hk);have Hm:=lH (iK Hm.out hk);have Ga0:=lH (show w.heap.size≤w.heap.size from tL_ HB.out.size (by omega));have Xa0:=lH xa0;have HB:=lH (bC HB.out hb);clear hk hb xa0
 (first|(have hcall:=rgcd_can Hn.out Hm.out (by omega) (by omega);refine cM hcall ?_;clear hcall)|refine cM (rgcd_can Hn.out Hm.out (by omega) (by omega)) ?_)
 rintro e w2 ⟨v2,rfl,hg,hb⟩;obtain⟨g_a,g_n,g_c,rfl⟩:=hg.is.lit;have Hn:=lH (iK Hn.out (kC hb));have Hm:=lH (iK Hm.out (kC hb));have Xa0:=lH (xP hb Xa0.out);have HB:=lH (bC HB.out hb);have Hg:=lH hg;clear hb hg;obtain⟨ca00,ca01,ca02,fa00,fa01,fa02⟩:=Xa0.out.c3;have la0:=Xa0.out.lt
 go_wp2_with fail
 clear ca00 ca01 ca02 fa00 fa01 fa02 la0
 (first|(have hcall:=rdivmod_pos (gcd_pos Hd.out) Hn.out Hg.out.is (by omega) (by omega);refine cM hcall ?_;clear hcall)|refine cM (rdivmod_pos (gcd_pos Hd.out) Hn.out Hg.out.is (by omega) (by omega)) ?_)
 rintro e w3 ⟨t3,rfl,⟨v3,u3,rfl,hqa,hra⟩,hb⟩;obtain⟨qa_a,qa_n,qa_c,rfl⟩:=hqa.is.lit;obtain⟨ra_a,ra_n,ra_c,rfl⟩:=hra.is.lit;have Hm:=lH (iK Hm.out (kC hb));have Hg:=lH (Can.keep Hg.out (kC hb));have Xa0:=lH (xP hb Xa0.out);have HB:=lH (bC HB.out hb);have Hqa:=lH hqa;have Hra:=lH hra;clear hb hqa hra;have hp0:decide (0<qa_n)=true:=Hqa.out.pos (num_pos Hz.out);obtain⟨ca00,ca01,ca02,fa00,fa01,fa02⟩:=Xa0.out.c3;have la0:=Xa0.out.lt
 go_wp2_with fail
 clear ca00 ca01 ca02 fa00 fa01 fa02 la0
 (first|(have hcall:=rdivmod_un (gcd_pos Hd.out) Hl.out Hm.out Hg.out.is (by omega) (by omega);refine cM hcall ?_;clear hcall)|refine cM (rdivmod_un (gcd_pos Hd.out) Hl.out Hm.out Hg.out.is (by omega) (by omega)) ?_)
 rintro e w4 ⟨t4,rfl,⟨qb_a,qb_n,qb_c,u4,rfl,hqb,hlen⟩,hb⟩;have Hqa:=lH (Can.keep Hqa.out (kC hb));have Xa0:=lH (xP hb Xa0.out);have HB:=lH (bC HB.out hb);have Hqb:=lH hqb;clear hb hqb;obtain⟨ca00,ca01,ca02,fa00,fa01,fa02⟩:=Xa0.out.c3;have la0:=Xa0.out.lt;go_wp2;clear ca00 ca01 ca02 fa00 fa01 fa02 la0;obtain⟨W5,hW⟩:∃W5,W5=(World.setCell (World.setCell (World.setCell w4 ⟨w.heap.size,0,none⟩ (.bool true)) ⟨w.heap.size,1,none⟩ (.slice qa_a qa_n qa_c)) ⟨w.heap.size,2,none⟩ (.slice qb_a qb_n qb_c)):=⟨_,rfl⟩;rw[←hW];obtain⟨xa0,hk,hf,hbb,hz⟩:=stored3s hW Xa0.out (by first|exact nB_ _|exact nS_ _ _ _) (by first|exact nB_ _|exact nS_ _ _ _) (by first|exact nB_ _|exact nS_ _ _ _);have Hqa:=lH (Can.keep Hqa.out hk);have Hqb:=lH (Can.keep Hqb.out hk);have Xa0:=lH xa0;have HB:=lH (hbb _ HB.out Ga0.out);clear hW hk hf hbb xa0;clear hz;exact ret_rat1 rfl rfl rfl Xa0.out (quot_four Hz.out Hd.out He.out Hqa.out Hqb.out) HB.out
theorem r3quot_3t {n d L M:Nat}{s t:Value}{w:World}(hz:0<n)(he:(d/Nat.gcd n d==1)=false)(hl:((sz (d/Nat.gcd n d):Nat):Int)=1)(hn:Is n L w s)(hm:Is d M w t)(hd:0<d)(hL:L≤1000000000)(hM:M≤1000000000):
  Calls Tryz.prog 71 #[.bool true,s,t] w (Ret w (CR (mkRat (iv true n) d) (max L M))):=by
 have Hn:=lH hn;have Hm:=lH hm;have Hd:=lH hd;have Hz:=lH hz;have He:=lH he;have Hl:=lH hl;clear hn hm hd hz he hl
 go_enter Tryz.func71,Tryz.ntmps71
 have HB:=lH (bR_ w.heap.size w)
 go_wp2_with fail
 obtain⟨W1,hW⟩:∃W1,W1=(World.alloc w (.cells #[.bool false,.slice none 0 0,.slice none 0 0] 34)):=⟨_,rfl⟩;rw[←hW];obtain⟨xa0,hk,hb⟩:=boxes_1 _ _ _ hW;clear hW;have Hn:=lH (iK Hn.out hk);have Hm:=lH (iK Hm.out hk);have Ga0:=lH (show w.heap.size≤w.heap.size from tL_ HB.out.size (by omega));have Xa0:=lH xa0;have HB:=lH (bC HB.out hb);clear hk hb xa0
 (first|(have hcall:=rgcd_can Hn.out Hm.out (by omega) (by omega);refine cM hcall ?_;clear hcall)|refine cM (rgcd_can Hn.out Hm.out (by omega) (by omega)) ?_)
 rintro e w2 ⟨v2,rfl,hg,hb⟩;obtain⟨g_a,g_n,g_c,rfl⟩:=hg.is.lit;have Hn:=lH (iK Hn.out (kC hb));have Hm:=lH (iK Hm.out (kC hb));have Xa0:=lH (xP hb Xa0.out);have HB:=lH (bC HB.out hb);have Hg:=lH hg;clear hb hg;obtain⟨ca00,ca01,ca02,fa00,fa01,fa02⟩:=Xa0.out.c3;have la0:=Xa0.out.lt
 go_wp2_with fail
 clear ca00 ca01 ca02 fa00 fa01 fa02 la0
 (first|(have hcall:=rdivmod_pos (gcd_pos Hd.out) Hn.out Hg.out.is (by omega) (by omega);refine cM hcall ?_;clear hcall)|refine cM (rdivmod_pos (gcd_pos Hd.out) Hn.out Hg.out.is (by omega) (by omega)) ?_)
 rintro e w3 ⟨t3,rfl,⟨v3,u3,rfl,hqa,hra⟩,hb⟩;obtain⟨qa_a,qa_n,qa_c,rfl⟩:=hqa.is.lit;obtain⟨ra_a,ra_n,ra_c,rfl⟩:=hra.is.lit;have Hm:=lH (iK Hm.out (kC hb));have Hg:=lH (Can.keep Hg.out (kC hb));have Xa0:=lH (xP hb Xa0.out);have HB:=lH (bC HB.out hb);have Hqa:=lH hqa;have Hra:=lH hra;clear hb hqa hra;have hp0:decide (0<qa_n)=true:=Hqa.out.pos (num_pos Hz.out);obtain⟨ca00,ca01,ca02,fa00,fa01,fa02⟩:=Xa0.out.c3;have la0:=Xa0.out.lt
 go_wp2_with fail
 clear ca00 ca01 ca02 fa00 fa01 fa02 la0
 (first|(have hcall:=rdivmod_uk (gcd_pos Hd.out) He.out Hl.out Hm.out Hg.out.is (by omega) (by omega);refine cM hcall ?_;clear hcall)|refine cM (rdivmod_uk (gcd_pos Hd.out) He.out Hl.out Hm.out Hg.out.is (by omega) (by omega)) ?_)
 rintro e w4 ⟨t4,rfl,⟨qb_b,qb_o,qb_c,u4,qb_k,rfl,hqb,hcell,hk1⟩,hb⟩;have Hqa:=lH (Can.keep Hqa.out (kC hb));have Xa0:=lH (xP hb Xa0.out);have HB:=lH (bC HB.out hb);have Hqb:=lH hqb;clear hb hqb;obtain⟨ca00,ca01,ca02,fa00,fa01,fa02⟩:=Xa0.out.c3;have la0:=Xa0.out.lt;go_wp2;clear ca00 ca01 ca02 fa00 fa01 fa02 la0;obtain⟨W5,hW⟩:∃W5,W5=(World.setCell (World.setCell (World.setCell w4 ⟨w.heap.size,0,none⟩ (.bool true)) ⟨w.heap.size,1,none⟩ (.slice qa_a qa_n qa_c)) ⟨w.heap.size,2,none⟩ (.slice (some ⟨qb_b,qb_o,none⟩) 1 qb_c)):=⟨_,rfl⟩;rw[←hW];obtain⟨xa0,hk,hf,hbb,hz⟩:=stored3s hW Xa0.out (by first|exact nB_ _|exact nS_ _ _ _) (by first|exact nB_ _|exact nS_ _ _ _) (by first|exact nB_ _|exact nS_ _ _ _);have Hqa:=lH (Can.keep Hqa.out hk);have Hqb:=lH (Can.keep Hqb.out hk);have Xa0:=lH xa0;have HB:=lH (hbb _ HB.out Ga0.out);clear hW hk hf hbb xa0;clear hz;exact ret_rat1 rfl rfl rfl Xa0.out (quot_four Hz.out Hd.out He.out Hqa.out Hqb.out) HB.out
theorem r3quot_0f {n d L M:Nat}{s t:Value}{w:World}(hz:n=0)(hn:Is n L w s)(hm:Is d M w t)(hd:0<d)(hL:L≤1000000000)(hM:M≤1000000000):
  Calls Tryz.prog 71 #[.bool false,s,t] w (Ret w (CR (mkRat (iv false n) d) (max L M))):=by
 have Hn:=lH hn;have Hm:=lH hm;have Hd:=lH hd;have Hz:=lH hz;clear hn hm hd hz
 go_enter Tryz.func71,Tryz.ntmps71
 have HB:=lH (bR_ w.heap.size w)
 go_wp2_with fail
 obtain⟨W1,hW⟩:∃W1,W1=(World.alloc w (.cells #[.bool false,.slice none 0 0,.slice none 0 0] 34)):=⟨_,rfl⟩;rw[←hW];obtain⟨xa0,hk,hb⟩:=boxes_1 _ _ _ hW;clear hW;have Hn:=lH (iK Hn.out hk);have Hm:=lH (iK Hm.out hk);have Ga0:=lH (show w.heap.size≤w.heap.size from tL_ HB.out.size (by omega));have Xa0:=lH xa0;have HB:=lH (bC HB.out hb);clear hk hb xa0
 (first|(have hcall:=rgcd_can Hn.out Hm.out (by omega) (by omega);refine cM hcall ?_;clear hcall)|refine cM (rgcd_can Hn.out Hm.out (by omega) (by omega)) ?_)
 rintro e w2 ⟨v2,rfl,hg,hb⟩;obtain⟨g_a,g_n,g_c,rfl⟩:=hg.is.lit;have Hn:=lH (iK Hn.out (kC hb));have Hm:=lH (iK Hm.out (kC hb));have Xa0:=lH (xP hb Xa0.out);have HB:=lH (bC HB.out hb);have Hg:=lH hg;clear hb hg;obtain⟨ca00,ca01,ca02,fa00,fa01,fa02⟩:=Xa0.out.c3;have la0:=Xa0.out.lt
 go_wp2_with fail
 clear ca00 ca01 ca02 fa00 fa01 fa02 la0
 (first|(have hcall:=rdivmod_pos (gcd_pos Hd.out) Hn.out Hg.out.is (by omega) (by omega);refine cM hcall ?_;clear hcall)|refine cM (rdivmod_pos (gcd_pos Hd.out) Hn.out Hg.out.is (by omega) (by omega)) ?_)
 rintro e w3 ⟨t3,rfl,⟨v3,u3,rfl,hqa,hra⟩,hb⟩;obtain⟨qa_a,qa_n,qa_c,rfl⟩:=hqa.is.lit;obtain⟨ra_a,ra_n,ra_c,rfl⟩:=hra.is.lit;have Hm:=lH (iK Hm.out (kC hb));have Hg:=lH (Can.keep Hg.out (kC hb));have Xa0:=lH (xP hb Xa0.out);have HB:=lH (bC HB.out hb);have Hqa:=lH hqa;have Hra:=lH hra;clear hb hqa hra;have hp0:decide (0<qa_n)=false:=Hqa.out.posF (by rw[Hz.out,Nat.zero_div]);obtain⟨ca00,ca01,ca02,fa00,fa01,fa02⟩:=Xa0.out.c3;have la0:=Xa0.out.lt
 go_wp2_with fail
 clear ca00 ca01 ca02 fa00 fa01 fa02 la0
 (first|(have hcall:=rdivmod_u1 (gcd_pos Hd.out) (den_zero Hz.out Hd.out) Hm.out Hg.out.is (by omega) (by omega);refine cM hcall ?_;clear hcall)|refine cM (rdivmod_u1 (gcd_pos Hd.out) (den_zero Hz.out Hd.out) Hm.out Hg.out.is (by omega) (by omega)) ?_)
 rintro e w4 ⟨t4,rfl,⟨qb_b,qb_o,qb_c,u4,rfl,hqb,hcell⟩,hb⟩;have Hm:=lH (iK Hm.out (kC hb));have Hqa:=lH (Can.keep Hqa.out (kC hb));have Xa0:=lH (xP hb Xa0.out);have HB:=lH (bC HB.out hb);have Hqb:=lH hqb;clear hb hqb;obtain⟨ca00,ca01,ca02,fa00,fa01,fa02⟩:=Xa0.out.c3;have la0:=Xa0.out.lt;go_wp2;clear ca00 ca01 ca02 fa00 fa01 fa02 la0;obtain⟨W5,hW⟩:∃W5,W5=(World.setCell (World.setCell (World.setCell w4 ⟨w.heap.size,0,none⟩ (.bool false)) ⟨w.heap.size,1,none⟩ (.slice qa_a qa_n qa_c)) ⟨w.heap.size,2,none⟩ (.slice none 0 0)):=⟨_,rfl⟩;rw[←hW];obtain⟨xa0,hk,hf,hbb,hz⟩:=stored3s hW Xa0.out (by first|exact nB_ _|exact nS_ _ _ _) (by first|exact nB_ _|exact nS_ _ _ _) (by first|exact nB_ _|exact nS_ _ _ _);have Hm:=lH (iK Hm.out hk);have Hqa:=lH (Can.keep Hqa.out hk);have Xa0:=lH xa0;have HB:=lH (hbb _ HB.out Ga0.out);clear hW hk hf hbb xa0;clear hz;exact ret_rat1 rfl rfl rfl Xa0.out (rquot_zero (neg:=false) Hz.out Hd.out Hqa.out Hm.out) HB.out
theorem r3quot_1f {n d L M:Nat}{s t:Value}{w:World}(hz:0<n)(he:(d/Nat.gcd n d==1)=true)(hn:Is n L w s)(hm:Is d M w t)(hd:0<d)(hL:L≤1000000000)(hM:M≤1000000000):
  Calls Tryz.prog 71 #[.bool false,s,t] w (Ret w (CR (mkRat (iv false n) d) (max L M))):=by
 have Hn:=lH hn;have Hm:=lH hm;have Hd:=lH hd;have Hz:=lH hz;have He:=lH he;clear hn hm hd hz he
 go_enter Tryz.func71,Tryz.ntmps71
 have HB:=lH (bR_ w.heap.size w)
 go_wp2_with fail
 obtain⟨W1,hW⟩:∃W1,W1=(World.alloc w (.cells #[.bool false,.slice none 0 0,.slice none 0 0] 34)):=⟨_,rfl⟩;rw[←hW];obtain⟨xa0,hk,hb⟩:=boxes_1 _ _ _ hW;clear hW;have Hn:=lH (iK Hn.out hk);have Hm:=lH (iK Hm.out hk);have Ga0:=lH (show w.heap.size≤w.heap.size from tL_ HB.out.size (by omega));have Xa0:=lH xa0;have HB:=lH (bC HB.out hb);clear hk hb xa0
 (first|(have hcall:=rgcd_can Hn.out Hm.out (by omega) (by omega);refine cM hcall ?_;clear hcall)|refine cM (rgcd_can Hn.out Hm.out (by omega) (by omega)) ?_)
 rintro e w2 ⟨v2,rfl,hg,hb⟩;obtain⟨g_a,g_n,g_c,rfl⟩:=hg.is.lit;have Hn:=lH (iK Hn.out (kC hb));have Hm:=lH (iK Hm.out (kC hb));have Xa0:=lH (xP hb Xa0.out);have HB:=lH (bC HB.out hb);have Hg:=lH hg;clear hb hg;obtain⟨ca00,ca01,ca02,fa00,fa01,fa02⟩:=Xa0.out.c3;have la0:=Xa0.out.lt
 go_wp2_with fail
 clear ca00 ca01 ca02 fa00 fa01 fa02 la0
 (first|(have hcall:=rdivmod_pos (gcd_pos Hd.out) Hn.out Hg.out.is (by omega) (by omega);refine cM hcall ?_;clear hcall)|refine cM (rdivmod_pos (gcd_pos Hd.out) Hn.out Hg.out.is (by omega) (by omega)) ?_)
 rintro e w3 ⟨t3,rfl,⟨v3,u3,rfl,hqa,hra⟩,hb⟩;obtain⟨qa_a,qa_n,qa_c,rfl⟩:=hqa.is.lit;obtain⟨ra_a,ra_n,ra_c,rfl⟩:=hra.is.lit;have Hm:=lH (iK Hm.out (kC hb));have Hg:=lH (Can.keep Hg.out (kC hb));have Xa0:=lH (xP hb Xa0.out);have HB:=lH (bC HB.out hb);have Hqa:=lH hqa;have Hra:=lH hra;clear hb hqa hra;have hp0:decide (0<qa_n)=true:=Hqa.out.pos (num_pos Hz.out);obtain⟨ca00,ca01,ca02,fa00,fa01,fa02⟩:=Xa0.out.c3;have la0:=Xa0.out.lt
 go_wp2_with fail
 clear ca00 ca01 ca02 fa00 fa01 fa02 la0
 (first|(have hcall:=rdivmod_u1 (gcd_pos Hd.out) He.out Hm.out Hg.out.is (by omega) (by omega);refine cM hcall ?_;clear hcall)|refine cM (rdivmod_u1 (gcd_pos Hd.out) He.out Hm.out Hg.out.is (by omega) (by omega)) ?_)
 rintro e w4 ⟨t4,rfl,⟨qb_b,qb_o,qb_c,u4,rfl,hqb,hcell⟩,hb⟩;have Hm:=lH (iK Hm.out (kC hb));have Hqa:=lH (Can.keep Hqa.out (kC hb));have Xa0:=lH (xP hb Xa0.out);have HB:=lH (bC HB.out hb);have Hqb:=lH hqb;clear hb hqb;obtain⟨ca00,ca01,ca02,fa00,fa01,fa02⟩:=Xa0.out.c3;have la0:=Xa0.out.lt;go_wp2;clear ca00 ca01 ca02 fa00 fa01 fa02 la0;obtain⟨W5,hW⟩:∃W5,W5=(World.setCell (World.setCell (World.setCell w4 ⟨w.heap.size,0,none⟩ (.bool false)) ⟨w.heap.size,1,none⟩ (.slice qa_a qa_n qa_c)) ⟨w.heap.size,2,none⟩ (.slice none 0 0)):=⟨_,rfl⟩;rw[←hW];obtain⟨xa0,hk,hf,hbb,hz⟩:=stored3s hW Xa0.out (by first|exact nB_ _|exact nS_ _ _ _) (by first|exact nB_ _|exact nS_ _ _ _) (by first|exact nB_ _|exact nS_ _ _ _);have Hm:=lH (iK Hm.out hk);have Hqa:=lH (Can.keep Hqa.out hk);have Xa0:=lH xa0;have HB:=lH (hbb _ HB.out Ga0.out);clear hW hk hf hbb xa0;clear hz;exact ret_rat1 rfl rfl rfl Xa0.out (quot_three Hz.out Hd.out He.out Hqa.out Hm.out) HB.out
theorem r3quot_2f {n d L M:Nat}{s t:Value}{w:World}(hz:0<n)(he:(d/Nat.gcd n d==1)=false)(hl:((sz (d/Nat.gcd n d):Nat):Int)≠1)(hn:Is n L w s)(hm:Is d M w t)(hd:0<d)(hL:L≤1000000000)(hM:M≤1000000000):
  Calls Tryz.prog 71 #[.bool false,s,t] w (Ret w (CR (mkRat (iv false n) d) (max L M))):=by
 have Hn:=lH hn;have Hm:=lH hm;have Hd:=lH hd;have Hz:=lH hz;have He:=lH he;have Hl:=lH hl;clear hn hm hd hz he hl
 go_enter Tryz.func71,Tryz.ntmps71
 have HB:=lH (bR_ w.heap.size w)
 go_wp2_with fail
 obtain⟨W1,hW⟩:∃W1,W1=(World.alloc w (.cells #[.bool false,.slice none 0 0,.slice none 0 0] 34)):=⟨_,rfl⟩;rw[←hW];obtain⟨xa0,hk,hb⟩:=boxes_1 _ _ _ hW;clear hW;have Hn:=lH (iK Hn.out hk);have Hm:=lH (iK Hm.out hk);have Ga0:=lH (show w.heap.size≤w.heap.size from tL_ HB.out.size (by omega));have Xa0:=lH xa0;have HB:=lH (bC HB.out hb);clear hk hb xa0
 (first|(have hcall:=rgcd_can Hn.out Hm.out (by omega) (by omega);refine cM hcall ?_;clear hcall)|refine cM (rgcd_can Hn.out Hm.out (by omega) (by omega)) ?_)
 rintro e w2 ⟨v2,rfl,hg,hb⟩;obtain⟨g_a,g_n,g_c,rfl⟩:=hg.is.lit;have Hn:=lH (iK Hn.out (kC hb));have Hm:=lH (iK Hm.out (kC hb));have Xa0:=lH (xP hb Xa0.out);have HB:=lH (bC HB.out hb);have Hg:=lH hg;clear hb hg;obtain⟨ca00,ca01,ca02,fa00,fa01,fa02⟩:=Xa0.out.c3;have la0:=Xa0.out.lt
 go_wp2_with fail
 clear ca00 ca01 ca02 fa00 fa01 fa02 la0
 (first|(have hcall:=rdivmod_pos (gcd_pos Hd.out) Hn.out Hg.out.is (by omega) (by omega);refine cM hcall ?_;clear hcall)|refine cM (rdivmod_pos (gcd_pos Hd.out) Hn.out Hg.out.is (by omega) (by omega)) ?_)
 rintro e w3 ⟨t3,rfl,⟨v3,u3,rfl,hqa,hra⟩,hb⟩;obtain⟨qa_a,qa_n,qa_c,rfl⟩:=hqa.is.lit;obtain⟨ra_a,ra_n,ra_c,rfl⟩:=hra.is.lit;have Hm:=lH (iK Hm.out (kC hb));have Hg:=lH (Can.keep Hg.out (kC hb));have Xa0:=lH (xP hb Xa0.out);have HB:=lH (bC HB.out hb);have Hqa:=lH hqa;have Hra:=lH hra;clear hb hqa hra;have hp0:decide (0<qa_n)=true:=Hqa.out.pos (num_pos Hz.out);obtain⟨ca00,ca01,ca02,fa00,fa01,fa02⟩:=Xa0.out.c3;have la0:=Xa0.out.lt
 go_wp2_with fail
 clear ca00 ca01 ca02 fa00 fa01 fa02 la0
 (first|(have hcall:=rdivmod_un (gcd_pos Hd.out) Hl.out Hm.out Hg.out.is (by omega) (by omega);refine cM hcall ?_;clear hcall)|refine cM (rdivmod_un (gcd_pos Hd.out) Hl.out Hm.out Hg.out.is (by omega) (by omega)) ?_)
 rintro e w4 ⟨t4,rfl,⟨qb_a,qb_n,qb_c,u4,rfl,hqb,hlen⟩,hb⟩;have Hqa:=lH (Can.keep Hqa.out (kC hb));have Xa0:=lH (xP hb Xa0.out);have HB:=lH (bC HB.out hb);have Hqb:=lH hqb;clear hb hqb;obtain⟨ca00,ca01,ca02,fa00,fa01,fa02⟩:=Xa0.out.c3;have la0:=Xa0.out.lt;go_wp2;clear ca00 ca01 ca02 fa00 fa01 fa02 la0;obtain⟨W5,hW⟩:∃W5,W5=(World.setCell (World.setCell (World.setCell w4 ⟨w.heap.size,0,none⟩ (.bool false)) ⟨w.heap.size,1,none⟩ (.slice qa_a qa_n qa_c)) ⟨w.heap.size,2,none⟩ (.slice qb_a qb_n qb_c)):=⟨_,rfl⟩;rw[←hW];obtain⟨xa0,hk,hf,hbb,hz⟩:=stored3s hW Xa0.out (by first|exact nB_ _|exact nS_ _ _ _) (by first|exact nB_ _|exact nS_ _ _ _) (by first|exact nB_ _|exact nS_ _ _ _);have Hqa:=lH (Can.keep Hqa.out hk);have Hqb:=lH (Can.keep Hqb.out hk);have Xa0:=lH xa0;have HB:=lH (hbb _ HB.out Ga0.out);clear hW hk hf hbb xa0;clear hz;exact ret_rat1 rfl rfl rfl Xa0.out (quot_four Hz.out Hd.out He.out Hqa.out Hqb.out) HB.out
theorem r3quot_3f {n d L M:Nat}{s t:Value}{w:World}(hz:0<n)(he:(d/Nat.gcd n d==1)=false)(hl:((sz (d/Nat.gcd n d):Nat):Int)=1)(hn:Is n L w s)(hm:Is d M w t)(hd:0<d)(hL:L≤1000000000)(hM:M≤1000000000):
  Calls Tryz.prog 71 #[.bool false,s,t] w (Ret w (CR (mkRat (iv false n) d) (max L M))):=by
 have Hn:=lH hn;have Hm:=lH hm;have Hd:=lH hd;have Hz:=lH hz;have He:=lH he;have Hl:=lH hl;clear hn hm hd hz he hl
 go_enter Tryz.func71,Tryz.ntmps71
 have HB:=lH (bR_ w.heap.size w)
 go_wp2_with fail
 obtain⟨W1,hW⟩:∃W1,W1=(World.alloc w (.cells #[.bool false,.slice none 0 0,.slice none 0 0] 34)):=⟨_,rfl⟩;rw[←hW];obtain⟨xa0,hk,hb⟩:=boxes_1 _ _ _ hW;clear hW;have Hn:=lH (iK Hn.out hk);have Hm:=lH (iK Hm.out hk);have Ga0:=lH (show w.heap.size≤w.heap.size from tL_ HB.out.size (by omega));have Xa0:=lH xa0;have HB:=lH (bC HB.out hb);clear hk hb xa0
 (first|(have hcall:=rgcd_can Hn.out Hm.out (by omega) (by omega);refine cM hcall ?_;clear hcall)|refine cM (rgcd_can Hn.out Hm.out (by omega) (by omega)) ?_)
 rintro e w2 ⟨v2,rfl,hg,hb⟩;obtain⟨g_a,g_n,g_c,rfl⟩:=hg.is.lit;have Hn:=lH (iK Hn.out (kC hb));have Hm:=lH (iK Hm.out (kC hb));have Xa0:=lH (xP hb Xa0.out);have HB:=lH (bC HB.out hb);have Hg:=lH hg;clear hb hg;obtain⟨ca00,ca01,ca02,fa00,fa01,fa02⟩:=Xa0.out.c3;have la0:=Xa0.out.lt
 go_wp2_with fail
 clear ca00 ca01 ca02 fa00 fa01 fa02 la0
 (first|(have hcall:=rdivmod_pos (gcd_pos Hd.out) Hn.out Hg.out.is (by omega) (by omega);refine cM hcall ?_;clear hcall)|refine cM (rdivmod_pos (gcd_pos Hd.out) Hn.out Hg.out.is (by omega) (by omega)) ?_)
 rintro e w3 ⟨t3,rfl,⟨v3,u3,rfl,hqa,hra⟩,hb⟩;obtain⟨qa_a,qa_n,qa_c,rfl⟩:=hqa.is.lit;obtain⟨ra_a,ra_n,ra_c,rfl⟩:=hra.is.lit;have Hm:=lH (iK Hm.out (kC hb));have Hg:=lH (Can.keep Hg.out (kC hb));have Xa0:=lH (xP hb Xa0.out);have HB:=lH (bC HB.out hb);have Hqa:=lH hqa;have Hra:=lH hra;clear hb hqa hra;have hp0:decide (0<qa_n)=true:=Hqa.out.pos (num_pos Hz.out);obtain⟨ca00,ca01,ca02,fa00,fa01,fa02⟩:=Xa0.out.c3;have la0:=Xa0.out.lt
 go_wp2_with fail
 clear ca00 ca01 ca02 fa00 fa01 fa02 la0
 (first|(have hcall:=rdivmod_uk (gcd_pos Hd.out) He.out Hl.out Hm.out Hg.out.is (by omega) (by omega);refine cM hcall ?_;clear hcall)|refine cM (rdivmod_uk (gcd_pos Hd.out) He.out Hl.out Hm.out Hg.out.is (by omega) (by omega)) ?_)
 rintro e w4 ⟨t4,rfl,⟨qb_b,qb_o,qb_c,u4,qb_k,rfl,hqb,hcell,hk1⟩,hb⟩;have Hqa:=lH (Can.keep Hqa.out (kC hb));have Xa0:=lH (xP hb Xa0.out);have HB:=lH (bC HB.out hb);have Hqb:=lH hqb;clear hb hqb;obtain⟨ca00,ca01,ca02,fa00,fa01,fa02⟩:=Xa0.out.c3;have la0:=Xa0.out.lt;go_wp2;clear ca00 ca01 ca02 fa00 fa01 fa02 la0;obtain⟨W5,hW⟩:∃W5,W5=(World.setCell (World.setCell (World.setCell w4 ⟨w.heap.size,0,none⟩ (.bool false)) ⟨w.heap.size,1,none⟩ (.slice qa_a qa_n qa_c)) ⟨w.heap.size,2,none⟩ (.slice (some ⟨qb_b,qb_o,none⟩) 1 qb_c)):=⟨_,rfl⟩;rw[←hW];obtain⟨xa0,hk,hf,hbb,hz⟩:=stored3s hW Xa0.out (by first|exact nB_ _|exact nS_ _ _ _) (by first|exact nB_ _|exact nS_ _ _ _) (by first|exact nB_ _|exact nS_ _ _ _);have Hqa:=lH (Can.keep Hqa.out hk);have Hqb:=lH (Can.keep Hqb.out hk);have Xa0:=lH xa0;have HB:=lH (hbb _ HB.out Ga0.out);clear hW hk hf hbb xa0;clear hz;exact ret_rat1 rfl rfl rfl Xa0.out (quot_four Hz.out Hd.out He.out Hqa.out Hqb.out) HB.out
theorem r3quot_is {neg:Bool}{n d L M:Nat}{s t:Value}{w:World}(hd:0<d)(hn:Is n L w s)(hm:Is d M w t)(hL:L≤1000000000)(hM:M≤1000000000):
  Calls Tryz.prog 71 #[.bool neg,s,t] w (Ret w (CR (mkRat (iv neg n) d) (max L M))):=by
 rcases eP_ n with h0|h0
 ·cases neg
  ·exact r3quot_0f h0 hn hm hd hL hM
  ·exact r3quot_0t h0 hn hm hd hL hM
 ·cases h1:d/Nat.gcd n d==1
  ·by_cases h2:((sz (d/Nat.gcd n d):Nat):Int)=1
   ·cases neg
    ·exact r3quot_3f h0 h1 h2 hn hm hd hL hM
    ·exact r3quot_3t h0 h1 h2 hn hm hd hL hM
   ·cases neg
    ·exact r3quot_2f h0 h1 h2 hn hm hd hL hM
    ·exact r3quot_2t h0 h1 h2 hn hm hd hL hM
  ·cases neg
   ·exact r3quot_1f h0 h1 hn hm hd hL hM
   ·exact r3quot_1t h0 h1 hn hm hd hL hM
theorem CR.of_int {z:Int}{L:Nat}{w:World}{b:Bool}{s:Value}(h:CL z L w (.agg #[.bool b,s])):CR (z:Rat) (max L 1) w (.agg #[.bool b,s,.slice none 0 0]):=by
 obtain⟨⟨s',he,h2⟩,h3⟩:=h;injection he with he;injection he with he;injection he with e1 he;injection he with e2 _;injection e1 with e1;subst e1 e2;refine⟨⟨s,.slice none 0 0,?_,h2,?_⟩,tL_ h3 (Nat.le_max_left _ _),tL_ (sz_le (by decide):sz 1≤1) (Nat.le_max_right _ _)⟩
 ·congr 4
  rw[Bool.eq_iff_iff];simp only[decide_eq_true_eq];exact Rat.intCast_neg_iff.symm
 ·show Sl w _ (limbs 0);rw[limbs_zero];exact Sl.nil w
theorem zadd_parts {ba bb bs:Bool}{na da nb db:Nat}(h:iv bs (iv ba (na*un db)+iv bb (nb*un da)).natAbs=iv ba (na*un db)+iv bb (nb*un da)):
  mkRat (iv bs (iv ba (na*un db)+iv bb (nb*un da)).natAbs) (un da*un db)=rv ba na da+rv bb nb db:=by
 rw[h];unfold rv;rw[Rat.mkRat_add_mkRat _ _ (un_ne _) (un_ne _)]
 congr 1
 cases ba<;>cases bb<;>simp[iv,Int.natCast_mul,Int.neg_mul]
theorem zcanon_p {L:Nat}{ba:Bool}{na da:Nat}{sa ta:Value}{w:World}(hna:Is na L w sa)(hda:Is da L w ta)(hL:L≤100000000):
  Calls Tryz.prog 40 #[.agg #[.bool ba,sa,ta]] w (Ret w (CR (rv ba na da) (max L 1))):=by
 have Hna:=lH hna;have Hda:=lH hda;clear hna hda
 go_enter Tryz.func40,Tryz.ntmps40
 have HB:=lH (bR_ w.heap.size w)
 go_wp2_with fail
 obtain⟨W1,hW⟩:∃W1,W1=(World.alloc (World.alloc w (.cells #[.bool ba,sa,ta] 34)) (.cells #[.bool false,.slice none 0 0,.slice none 0 0] 34)):=⟨_,rfl⟩;rw[←hW];obtain⟨xa0,xb0,hk,hb⟩:=boxes_2 _ _ _ _ _ hW;clear hW;have Hna:=lH (iK Hna.out hk);have Hda:=lH (iK Hda.out hk);have Ga0:=lH (show w.heap.size≤w.heap.size from tL_ HB.out.size (by omega));have Gb0:=lH (show w.heap.size≤w.heap.size+1 from tL_ HB.out.size (by omega));have Xa0:=lH xa0;have Xb0:=lH xb0;have HB:=lH (bC HB.out hb);clear hk hb xa0 xb0;have Hna:=lH (iK Hna.out (Keep.drew W1));have Hda:=lH (iK Hda.out (Keep.drew W1));have Xa0:=lH (Box.drew Xa0.out);have Xb0:=lH (Box.drew Xb0.out);have HB:=lH (Below.drew HB.out);refine wp_region_float [w.heap.size+1] [] (by kernel_rfl) (by kernel_rfl) 11 (by kernel_rfl) Flok.nil ?_;intro ok;have Hok:=lH ok;clear ok;have HG:=lH (bR_ (W1.drew).heap.size (W1.drew));refine good_pureX 0 (some 3) (Go.Op.fieldAddr 34 (Go.Operand.tmp 1) 0) (none) (.pointer (some ⟨w.heap.size,0,none⟩)) (by kernel_rfl) (by kernel_rfl) (by kernel_rfl) (fun _ _ _ h=>h) (fun w' hw'=> ?_) ?_
 ·first|(go_simp;done)|(go_simp;simp_all;done)|(go_simp;rfl)
 simp only[Act.put,sI,sZ,sS];refine good_pureX 1 (some 4) (Go.Op.load 4 (Go.Operand.tmp 3)) (none) (.bool ba) (by kernel_rfl) (by kernel_rfl) (by kernel_rfl) (fun _ _ _ h=>h) (fun w' hw'=> ?_) ?_
 ·obtain⟨ca00,ca01,ca02,fa00,fa01,fa02⟩:=(Box.se hw' Xa0.out (notin1 (by omega))).c3
  first|(go_simp;done)|(go_simp;simp_all;done)|(go_simp;rfl)
 simp only[Act.put,sI,sZ,sS];refine good_pureX 2 (some 5) (Go.Op.fieldAddr 34 (Go.Operand.tmp 1) 1) (none) (.pointer (some ⟨w.heap.size,1,none⟩)) (by kernel_rfl) (by kernel_rfl) (by kernel_rfl) (fun _ _ _ h=>h) (fun w' hw'=> ?_) ?_
 ·first|(go_simp;done)|(go_simp;simp_all;done)|(go_simp;rfl)
 simp only[Act.put,sI,sZ,sS];refine good_pureX 3 (some 6) (Go.Op.load 32 (Go.Operand.tmp 5)) (none) (sa) (by kernel_rfl) (by kernel_rfl) (by kernel_rfl) (fun _ _ _ h=>h) (fun w' hw'=> ?_) ?_
 ·obtain⟨ca00,ca01,ca02,fa00,fa01,fa02⟩:=(Box.se hw' Xa0.out (notin1 (by omega))).c3
  first|(go_simp;done)|(go_simp;simp_all;done)|(go_simp;rfl)
 simp only[Act.put,sI,sZ,sS];refine good_pureX 4 (some 7) (Go.Op.fieldAddr 34 (Go.Operand.tmp 1) 2) (none) (.pointer (some ⟨w.heap.size,2,none⟩)) (by kernel_rfl) (by kernel_rfl) (by kernel_rfl) (fun _ _ _ h=>h) (fun w' hw'=> ?_) ?_
 ·first|(go_simp;done)|(go_simp;simp_all;done)|(go_simp;rfl)
 simp only[Act.put,sI,sZ,sS];refine good_pureX 5 (some 8) (Go.Op.load 32 (Go.Operand.tmp 7)) (none) (ta) (by kernel_rfl) (by kernel_rfl) (by kernel_rfl) (fun _ _ _ h=>h) (fun w' hw'=> ?_) ?_
 ·obtain⟨ca00,ca01,ca02,fa00,fa01,fa02⟩:=(Box.se hw' Xa0.out (notin1 (by omega))).c3
  first|(go_simp;done)|(go_simp;simp_all;done)|(go_simp;rfl)
 simp only[Act.put,sI,sZ,sS];refine good_callX 6 73 (some 9) #[Go.Operand.tmp 8] #[32] (none) #[ta] (by kernel_rfl) Hok.out (by kernel_rfl) (by kernel_rfl) (by kernel_rfl) (by kernel_rfl) rfl rfl rfl (by kernel_rfl) (fun w2 hb=> ?_);have HG:=lH (bC HG.out hb);clear hb
 (first|(have hcall:=r3one_is (iK Hda.out (kC HG.out));refine cM hcall ?_;clear hcall)|refine cM (r3one_is (iK Hda.out (kC HG.out))) ?_)
 rintro e w3 ⟨v3,rfl,hu,hb⟩;obtain⟨u_a,u_n,u_c,rfl⟩:=hu.lit;refine⟨_,rfl,?_,hb⟩;have HG:=lH (bC HG.out hb);have Hu:=lH hu;clear hb hu;simp only[Act.put,sI,sZ,sS];refine good_callX 7 71 (some 10) #[Go.Operand.tmp 4,Go.Operand.tmp 6,Go.Operand.tmp 9] #[4,32,32] (none) #[.bool ba,sa,.slice u_a u_n u_c] (by kernel_rfl) Hok.out (by kernel_rfl) (by kernel_rfl) (by kernel_rfl) (by kernel_rfl) rfl rfl rfl (by kernel_rfl) (fun w4 hb=> ?_);have Hu:=lH (iK Hu.out (kC hb));have HG:=lH (bC HG.out hb);clear hb;refine cM (r3quot_is (neg:=ba) (un_pos _) (iK Hna.out (kC HG.out)) Hu.out (by omega) (by omega)) ?_;rintro e w5 ⟨v5,rfl,hz,hb⟩;obtain⟨z_b,z_a,z_n,z_c,z_d,z_m,z_e,rfl⟩:=hz.litb;refine⟨_,rfl,?_,hb⟩;have HG:=lH (bC HG.out hb);have Hz:=lH hz;clear hb hz;simp only[Act.put,sI,sZ,sS];refine good_end0 1 (by kernel_rfl) (fun _ w6 hb=> ?_);have Hz:=lH (CR.keep Hz.out (kC hb));have HG:=lH (bC HG.out hb);clear hb;have Xa0:=lH (xP HG.out Xa0.out);have Xb0:=lH (xP HG.out Xb0.out);have HB:=lH (bC HB.out HG.out);have HS:=lH (SE.of (E:=[w.heap.size+1]) HG.out);refine held_oneX 8 (Go.Op.store 34 (Go.Operand.tmp 2) (Go.Operand.tmp 10)) (none) (World.setCell (World.setCell (World.setCell w6 ⟨w.heap.size+1,0,none⟩ (.bool z_b)) ⟨w.heap.size+1,1,none⟩ (.slice z_a z_n z_c)) ⟨w.heap.size+1,2,none⟩ (.slice z_d z_m z_e)) (by kernel_rfl) (by kernel_rfl) (by kernel_rfl) (by kernel_rfl) ?_ (HS.out.store3 in1) ?_
 ·obtain⟨cb00,cb01,cb02,fb00,fb01,fb02⟩:=Xb0.out.c3
  first|(go_simp;done)|(go_simp;simp_all;done)|(go_simp;rfl)
 obtain⟨W7,hW⟩:∃W7,W7=(World.setCell (World.setCell (World.setCell w6 ⟨w.heap.size+1,0,none⟩ (.bool z_b)) ⟨w.heap.size+1,1,none⟩ (.slice z_a z_n z_c)) ⟨w.heap.size+1,2,none⟩ (.slice z_d z_m z_e)):=⟨_,rfl⟩;rw[←hW];obtain⟨xb0,hk,hf,hbb,hz⟩:=stored3s hW Xb0.out (by first|exact nB_ _|exact nS_ _ _ _) (by first|exact nB_ _|exact nS_ _ _ _) (by first|exact nB_ _|exact nS_ _ _ _);have Hz:=lH (CR.keep Hz.out hk);have Xa0:=lH (hf _ _ _ Xa0.out (by omega));have Xb0:=lH xb0;have HB:=lH (hbb _ HB.out Gb0.out);have HS:=lH (show SE (W1.drew) [w.heap.size+1] W7 from by rw[hW];exact HS.out.store3 in1);clear hW hk hf hbb xb0;clear hz;refine wpAnyH_done (by kernel_rfl) ?_ _;clear HG HS Hok;obtain⟨ca00,ca01,ca02,fa00,fa01,fa02⟩:=Xa0.out.c3;have la0:=Xa0.out.lt;obtain⟨cb00,cb01,cb02,fb00,fb01,fb02⟩:=Xb0.out.c3;have lb0:=Xb0.out.lt;go_wp2;clear ca00 ca01 ca02 fa00 fa01 fa02 la0 cb00 cb01 cb02 fb00 fb01 fb02 lb0;exact ret_rat1 rfl rfl rfl Xb0.out (CR.mono Hz.out (by omega)) HB.out
theorem zcanon_ar {q:Rat}{L:Nat}{v:Value}{w:World}(h:AR q L w v)(hL:L≤100000000):Calls Tryz.prog 40 #[v] w (Ret w (CR q (max L 1))):=by
 obtain⟨b,s,t,n,d,rfl,h1,h2,rfl⟩:=h;exact zcanon_p h1 h2 hL
theorem zof {x:Int}{w:World}(h1: -9223372036854775808≤x)(h2:x<9223372036854775808):
  Calls Tryz.prog 11 #[.int .i64 x] w (Ret w (CR (x:Rat) 2)):=by
 go_enter Tryz.func11,Tryz.ntmps11
 have HB:=lH (bR_ w.heap.size w)
 go_wp2_with fail
 obtain⟨W1,hW⟩:∃W1,W1=(World.alloc w (.cells #[.bool false,.slice none 0 0,.slice none 0 0] 34)):=⟨_,rfl⟩;rw[←hW];obtain⟨xa0,hk,hb⟩:=boxes_1 _ _ _ hW;clear hW;have Ga0:=lH (show w.heap.size≤w.heap.size from tL_ HB.out.size (by omega));have Xa0:=lH xa0;have HB:=lH (bC HB.out hb);clear hk hb xa0;refine cM (riof_any h1 h2) ?_;rintro e w2 ⟨v2,rfl,ho,hb⟩;obtain⟨o_b,o_a,o_n,o_c,rfl⟩:=ho.litb;have Xa0:=lH (xP hb Xa0.out);have HB:=lH (bC HB.out hb);have Ho:=lH ho;clear hb ho;obtain⟨ca00,ca01,ca02,fa00,fa01,fa02⟩:=Xa0.out.c3;have la0:=Xa0.out.lt;go_wp2;clear ca00 ca01 ca02 fa00 fa01 fa02 la0;obtain⟨W3,hW⟩:∃W3,W3=(World.setCell (World.setCell (World.setCell w2 ⟨w.heap.size,0,none⟩ (.bool o_b)) ⟨w.heap.size,1,none⟩ (.slice o_a o_n o_c)) ⟨w.heap.size,2,none⟩ (.slice none 0 0)):=⟨_,rfl⟩;rw[←hW];obtain⟨xa0,hk,hf,hbb,hz⟩:=stored3s hW Xa0.out (by first|exact nB_ _|exact nS_ _ _ _) (by first|exact nB_ _|exact nS_ _ _ _) (by first|exact nB_ _|exact nS_ _ _ _);have Ho:=lH (CL.keep Ho.out hk);have Xa0:=lH xa0;have HB:=lH (hbb _ HB.out Ga0.out);clear hW hk hf hbb xa0;have hz3:=hz;clear hz;obtain⟨W4,hW⟩:∃W4,W4=(World.alloc W3 (.cells #[.bool o_b,.slice o_a o_n o_c] 100)):=⟨_,rfl⟩;rw[←hW];obtain⟨xb0,hk,hb⟩:=boxes_1 _ _ _ hW;clear hW;rw[hz3]at xb0;have Ho:=lH (CL.keep Ho.out hk);have Na0b0:=lH (show w.heap.size≠w2.heap.size from Nat.ne_of_lt (Nat.lt_of_lt_of_le Xa0.out.lt (by omega)));have Gb0:=lH (show w.heap.size≤w2.heap.size from tL_ HB.out.size (by omega));clear hz3;have Xa0:=lH (xP hb Xa0.out);have Xb0:=lH xb0;have HB:=lH (bC HB.out hb);clear hk hb xb0;exact ret_rat1 rfl rfl rfl Xa0.out (CR.mono (CR.of_int Ho.out) (by omega)) HB.out
theorem zmk_1 {L M:Nat}{ba:Bool}{na:Nat}{sa:Value}{bb:Bool}{nb:Nat}{sb:Value}{w:World}(k:Int)(hk:(iv bb nb).sign=k)(hk0:(k==0)=false)(hp:0<nb)(hna:Is na L w sa)(hnb:Is nb M w sb)(hL:L≤100000000)(hM:M≤100000000):
  Calls Tryz.prog 133 #[.agg #[.bool ba,sa],.agg #[.bool bb,sb]] w (Ret w (CRE ((iv ba na:Int)/(iv bb nb:Int)) (max L M) 0)):=by
 have Hna:=lH hna;have Hnb:=lH hnb;have Hk:=lH hk;have Hk0:=lH hk0;have Hp:=lH hp;clear hna hnb hk hk0 hp
 go_enter Tryz.func133,Tryz.ntmps133
 have HB:=lH (bR_ w.heap.size w)
 go_wp2_with fail
 obtain⟨W1,hW⟩:∃W1,W1=(World.alloc (World.alloc (World.alloc w (.cells #[.bool ba,sa] 100)) (.cells #[.bool bb,sb] 100)) (.cells #[.bool false,.slice none 0 0,.slice none 0 0] 34)):=⟨_,rfl⟩;rw[←hW];obtain⟨xa0,xb0,xc0,hk,hb⟩:=boxes_3 _ _ _ _ _ _ _ hW;clear hW;have Hna:=lH (iK Hna.out hk);have Hnb:=lH (iK Hnb.out hk);have Ga0:=lH (show w.heap.size≤w.heap.size from tL_ HB.out.size (by omega));have Gb0:=lH (show w.heap.size≤w.heap.size+1 from tL_ HB.out.size (by omega));have Gc0:=lH (show w.heap.size≤w.heap.size+1+1 from tL_ HB.out.size (by omega));have Xa0:=lH xa0;have Xb0:=lH xb0;have Xc0:=lH xc0;have HB:=lH (bC HB.out hb);clear hk hb xa0 xb0 xc0
 (first|(have hcall:=risign_ai k (AI.mk (n:=bb) Hnb.out) Hk.out;refine cM hcall ?_;clear hcall)|refine cM (risign_ai k (AI.mk (n:=bb) Hnb.out) Hk.out) ?_)
 rintro e w2 ⟨v2,rfl,rfl,hb⟩;have Hna:=lH (iK Hna.out (kC hb));have Hnb:=lH (iK Hnb.out (kC hb));have Xa0:=lH (xP hb Xa0.out);have Xb0:=lH (xP hb Xb0.out);have Xc0:=lH (xP hb Xc0.out);have HB:=lH (bC HB.out hb);clear hb;have hk0:(k==0)=false:=Hk0.out;obtain⟨ca00,ca01,fa00,fa01⟩:=Xa0.out.c2;have la0:=Xa0.out.lt;obtain⟨cb00,cb01,fb00,fb01⟩:=Xb0.out.c2;have lb0:=Xb0.out.lt;obtain⟨cc00,cc01,cc02,fc00,fc01,fc02⟩:=Xc0.out.c3;have lc0:=Xc0.out.lt
 go_wp2_with fail
 clear ca00 ca01 fa00 fa01 la0 cb00 cb01 fb00 fb01 lb0 cc00 cc01 cc02 fc00 fc01 fc02 lc0
 (first|(have hcall:=r3quot_is (neg:=(!ba==bb)) (Hp.out) Hna.out Hnb.out (by omega) (by omega);refine cM hcall ?_;clear hcall)|refine cM (r3quot_is (neg:=(!ba==bb)) (Hp.out) Hna.out Hnb.out (by omega) (by omega)) ?_)
 rintro e w3 ⟨v3,rfl,hz,hb⟩;obtain⟨z_b,z_a,z_n,z_c,z_d,z_m,z_e,rfl⟩:=hz.litb;have Xa0:=lH (xP hb Xa0.out);have Xb0:=lH (xP hb Xb0.out);have Xc0:=lH (xP hb Xc0.out);have HB:=lH (bC HB.out hb);have Hz:=lH hz;clear hb hz;obtain⟨ca00,ca01,fa00,fa01⟩:=Xa0.out.c2;have la0:=Xa0.out.lt;obtain⟨cb00,cb01,fb00,fb01⟩:=Xb0.out.c2;have lb0:=Xb0.out.lt;obtain⟨cc00,cc01,cc02,fc00,fc01,fc02⟩:=Xc0.out.c3;have lc0:=Xc0.out.lt;go_wp2;clear ca00 ca01 fa00 fa01 la0 cb00 cb01 fb00 fb01 lb0 cc00 cc01 cc02 fc00 fc01 fc02 lc0;obtain⟨W4,hW⟩:∃W4,W4=(World.setCell (World.setCell (World.setCell w3 ⟨w.heap.size+1+1,0,none⟩ (.bool z_b)) ⟨w.heap.size+1+1,1,none⟩ (.slice z_a z_n z_c)) ⟨w.heap.size+1+1,2,none⟩ (.slice z_d z_m z_e)):=⟨_,rfl⟩;rw[←hW];obtain⟨xc0,hk,hf,hbb,hz⟩:=stored3s hW Xc0.out (by first|exact nB_ _|exact nS_ _ _ _) (by first|exact nB_ _|exact nS_ _ _ _) (by first|exact nB_ _|exact nS_ _ _ _);have Hz:=lH (CR.keep Hz.out hk);have Xa0:=lH (hf _ _ _ Xa0.out (by omega));have Xb0:=lH (hf _ _ _ Xb0.out (by omega));have Xc0:=lH xc0;have HB:=lH (hbb _ HB.out Gc0.out);clear hW hk hf hbb xc0;clear hz;exact ret_re rfl rfl rfl rfl Xc0.out ⟨_,rfl,CR.cast (div_sign _ _ _ _ Hp.out) Hz.out⟩ HB.out
theorem zmk_ai {y z:Int}{L M:Nat}{u v:Value}{w:World}(hz:z≠0)(h:AI y L w u)(h':AI z M w v)(hL:L≤100000000)(hM:M≤100000000):
  Calls Tryz.prog 133 #[u,v] w (Ret w (CRE ((y:Rat)/(z:Rat)) (max L M) 0)):=by
 obtain⟨ba,sa,na,rfl,h1,rfl⟩:=h;obtain⟨bb,sb,nb,rfl,h2,rfl⟩:=h';have hp:0<nb:=by
  rcases eP_ nb with rfl|h0
  ·exact absurd (by cases bb<;>rfl) hz
  ·exact h0
 exact zmk_1 _ rfl (by simpa [Int.sign_eq_zero_iff_zero]using hz) hp h1 h2 hL hM
theorem zfrac_1 {x y:Int}{w:World}(h1: -9223372036854775808≤x)(h2:x<9223372036854775808)(h3: -9223372036854775808≤y)(h4:y<9223372036854775808)(hz:y≠0):
  Calls Tryz.prog 106 #[.int .i64 x,.int .i64 y] w (Ret w (CRE ((x:Rat)/(y:Rat)) 2 0)):=by
 have Hz:=lH hz;clear hz
 go_enter Tryz.func106,Tryz.ntmps106
 have HB:=lH (bR_ w.heap.size w)
 go_wp2_with fail
 obtain⟨W1,hW⟩:∃W1,W1=(World.alloc w (.cells #[.bool false,.slice none 0 0,.slice none 0 0] 34)):=⟨_,rfl⟩;rw[←hW];obtain⟨xa0,hk,hb⟩:=boxes_1 _ _ _ hW;clear hW;have Ga0:=lH (show w.heap.size≤w.heap.size from tL_ HB.out.size (by omega));have Xa0:=lH xa0;have HB:=lH (bC HB.out hb);clear hk hb xa0;refine cM (riof_any h1 h2) ?_;rintro e w2 ⟨v2,rfl,ho,hb⟩;obtain⟨o_b,o_a,o_n,o_c,rfl⟩:=ho.litb;have Xa0:=lH (xP hb Xa0.out);have HB:=lH (bC HB.out hb);have Ho:=lH ho;clear hb ho;obtain⟨ca00,ca01,ca02,fa00,fa01,fa02⟩:=Xa0.out.c3;have la0:=Xa0.out.lt
 go_wp2_with fail
 clear ca00 ca01 ca02 fa00 fa01 fa02 la0;refine cM (riof_any h3 h4) ?_;rintro e w3 ⟨v3,rfl,hp,hb⟩;obtain⟨p_b,p_a,p_n,p_c,rfl⟩:=hp.litb;have Ho:=lH (CL.keep Ho.out (kC hb));have Xa0:=lH (xP hb Xa0.out);have HB:=lH (bC HB.out hb);have Hp:=lH hp;clear hb hp;obtain⟨ca00,ca01,ca02,fa00,fa01,fa02⟩:=Xa0.out.c3;have la0:=Xa0.out.lt
 go_wp2_with fail
 clear ca00 ca01 ca02 fa00 fa01 fa02 la0
 (first|(have hcall:=zmk_ai Hz.out Ho.out.ai Hp.out.ai (by decide) (by decide);refine cM hcall ?_;clear hcall)|refine cM (zmk_ai Hz.out Ho.out.ai Hp.out.ai (by decide) (by decide)) ?_)
 rintro e w4 ⟨t4,rfl,⟨v4,rfl,hz⟩,hb⟩;obtain⟨z_b,z_a,z_n,z_c,z_d,z_m,z_e,rfl⟩:=hz.litb;have Xa0:=lH (xP hb Xa0.out);have HB:=lH (bC HB.out hb);have Hz:=lH hz;clear hb hz;obtain⟨ca00,ca01,ca02,fa00,fa01,fa02⟩:=Xa0.out.c3;have la0:=Xa0.out.lt;go_wp2;clear ca00 ca01 ca02 fa00 fa01 fa02 la0;obtain⟨W5,hW⟩:∃W5,W5=(World.setCell (World.setCell (World.setCell w4 ⟨w.heap.size,0,none⟩ (.bool z_b)) ⟨w.heap.size,1,none⟩ (.slice z_a z_n z_c)) ⟨w.heap.size,2,none⟩ (.slice z_d z_m z_e)):=⟨_,rfl⟩;rw[←hW];obtain⟨xa0,hk,hf,hbb,hz⟩:=stored3s hW Xa0.out (by first|exact nB_ _|exact nS_ _ _ _) (by first|exact nB_ _|exact nS_ _ _ _) (by first|exact nB_ _|exact nS_ _ _ _);have Hz:=lH (CR.keep Hz.out hk);have Xa0:=lH xa0;have HB:=lH (hbb _ HB.out Ga0.out);clear hW hk hf hbb xa0;clear hz;exact ret_re rfl rfl rfl rfl Xa0.out ⟨_,rfl,Hz.out⟩ HB.out
theorem zneg_p {L:Nat}{qa:Rat}{ba:Bool}{sa ta:Value}{w:World}(ha:AR qa L w (.agg #[.bool ba,sa,ta]))(hL:L≤100000000):
  Calls Tryz.prog 13 #[.agg #[.bool ba,sa,ta]] w (Ret w (CR (-qa) (max L 1))):=by
 have Ha:=lH ha;clear ha
 go_enter Tryz.func13,Tryz.ntmps13
 have HB:=lH (bR_ w.heap.size w)
 go_wp2_with fail
 obtain⟨W1,hW⟩:∃W1,W1=(World.alloc (World.alloc w (.cells #[.bool (!ba),sa,ta] 34)) (.cells #[.bool false,.slice none 0 0,.slice none 0 0] 34)):=⟨_,rfl⟩;rw[←hW];obtain⟨xa0,xb0,hk,hb⟩:=boxes_2 _ _ _ _ _ hW;clear hW;have Ha:=lH (AR.keep Ha.out hk);have Ga0:=lH (show w.heap.size≤w.heap.size from tL_ HB.out.size (by omega));have Gb0:=lH (show w.heap.size≤w.heap.size+1 from tL_ HB.out.size (by omega));have Xa0:=lH xa0;have Xb0:=lH xb0;have HB:=lH (bC HB.out hb);clear hk hb xa0 xb0
 (first|(have hcall:=zcanon_ar (AR.neg Ha.out) (by omega);refine cM hcall ?_;clear hcall)|refine cM (zcanon_ar (AR.neg Ha.out) (by omega)) ?_)
 rintro e w2 ⟨v2,rfl,hz,hb⟩;obtain⟨z_b,z_a,z_n,z_c,z_d,z_m,z_e,rfl⟩:=hz.litb;have Xa0:=lH (xP hb Xa0.out);have Xb0:=lH (xP hb Xb0.out);have HB:=lH (bC HB.out hb);have Hz:=lH hz;clear hb hz;obtain⟨ca00,ca01,ca02,fa00,fa01,fa02⟩:=Xa0.out.c3;have la0:=Xa0.out.lt;obtain⟨cb00,cb01,cb02,fb00,fb01,fb02⟩:=Xb0.out.c3;have lb0:=Xb0.out.lt;go_wp2;clear ca00 ca01 ca02 fa00 fa01 fa02 la0 cb00 cb01 cb02 fb00 fb01 fb02 lb0;obtain⟨W3,hW⟩:∃W3,W3=(World.setCell (World.setCell (World.setCell w2 ⟨w.heap.size+1,0,none⟩ (.bool z_b)) ⟨w.heap.size+1,1,none⟩ (.slice z_a z_n z_c)) ⟨w.heap.size+1,2,none⟩ (.slice z_d z_m z_e)):=⟨_,rfl⟩;rw[←hW];obtain⟨xb0,hk,hf,hbb,hz⟩:=stored3s hW Xb0.out (by first|exact nB_ _|exact nS_ _ _ _) (by first|exact nB_ _|exact nS_ _ _ _) (by first|exact nB_ _|exact nS_ _ _ _);have Hz:=lH (CR.keep Hz.out hk);have Xa0:=lH (hf _ _ _ Xa0.out (by omega));have Xb0:=lH xb0;have HB:=lH (hbb _ HB.out Gb0.out);clear hW hk hf hbb xb0;clear hz;exact ret_rat1 rfl rfl rfl Xb0.out Hz.out HB.out
theorem zneg_ar {q:Rat}{L:Nat}{v:Value}{w:World}(h:AR q L w v)(hL:L≤100000000):Calls Tryz.prog 13 #[v] w (Ret w (CR (-q) (max L 1))):=by
 obtain⟨b,s,t,rfl⟩:=h.agg;exact zneg_p h hL
theorem zsign_p {L:Nat}{ba:Bool}{na da:Nat}{a1:Option Addr}{a2 a3:Nat}{ta:Value}{w:World}(k:Int)(hk:(iv ba na).sign=k)(hna:Is na L w (.slice a1 a2 a3))(hda:Is da L w ta):
  Calls Tryz.prog 38 #[.agg #[.bool ba,.slice a1 a2 a3,ta]] w (Ret w (Val (.int .i64 k))):=by
 have Hna:=lH hna;have Hda:=lH hda;have Hk:=lH hk;clear hna hda hk
 go_enter Tryz.func38,Tryz.ntmps38
 have HB:=lH (bR_ w.heap.size w)
 go_wp2_with fail
 obtain⟨W1,hW⟩:∃W1,W1=(World.alloc w (.cells #[.bool ba,.slice a1 a2 a3,ta] 34)):=⟨_,rfl⟩;rw[←hW];obtain⟨xa0,hk,hb⟩:=boxes_1 _ _ _ hW;clear hW;have Hna:=lH (iK Hna.out hk);have Ga0:=lH (show w.heap.size≤w.heap.size from tL_ HB.out.size (by omega));have Xa0:=lH xa0;have HB:=lH (bC HB.out hb);clear hk hb xa0
 (first|(have hcall:=risign_ai k (AI.mk (n:=ba) Hna.out) Hk.out;refine cM hcall ?_;clear hcall)|refine cM (risign_ai k (AI.mk (n:=ba) Hna.out) Hk.out) ?_)
 rintro e w2 ⟨v2,rfl,rfl,hb⟩;have Xa0:=lH (xP hb Xa0.out);have HB:=lH (bC HB.out hb);clear hb;obtain⟨ca00,ca01,ca02,fa00,fa01,fa02⟩:=Xa0.out.c3;have la0:=Xa0.out.lt;go_wp2;clear ca00 ca01 ca02 fa00 fa01 fa02 la0
 go_ret
 exact⟨_,rfl,rfl,HB.out⟩
theorem zsign_ar {q:Rat}{L:Nat}{v:Value}{w:World}(k:Int)(h:AR q L w v)(hk:q.num.sign=k):Calls Tryz.prog 38 #[v] w (Ret w (Val (.int .i64 k))):=by
 obtain⟨b,s,t,n,d,rfl,h1,h2,rfl⟩:=h;obtain⟨a1,a2,a3,rfl⟩:=h1.lit;exact zsign_p k (by rw[←hk,rv_sign]) h1 h2
theorem zadd_p {L M:Nat}{ba:Bool}{na da:Nat}{sa ta:Value}{bb:Bool}{nb db:Nat}{sb tb:Value}{w:World}(hna:Is na L w sa)(hda:Is da L w ta)(hnb:Is nb M w sb)(hdb:Is db M w tb)(hL:L≤100000000)(hM:M≤100000000):
  Calls Tryz.prog 77 #[.agg #[.bool ba,sa,ta],.agg #[.bool bb,sb,tb]] w (Ret w (CR (rv ba na da+rv bb nb db) (L+M+3))):=by
 have Hna:=lH hna;have Hda:=lH hda;have Hnb:=lH hnb;have Hdb:=lH hdb;clear hna hda hnb hdb
 go_enter Tryz.func77,Tryz.ntmps77
 have HB:=lH (bR_ w.heap.size w)
 go_wp2_with fail
 obtain⟨W1,hW⟩:∃W1,W1=(World.alloc (World.alloc (World.alloc w (.cells #[.bool ba,sa,ta] 34)) (.cells #[.bool bb,sb,tb] 34)) (.cells #[.bool false,.slice none 0 0,.slice none 0 0] 34)):=⟨_,rfl⟩;rw[←hW];obtain⟨xa0,xb0,xc0,hk,hb⟩:=boxes_3 _ _ _ _ _ _ _ hW;clear hW;have Hna:=lH (iK Hna.out hk);have Hda:=lH (iK Hda.out hk);have Hnb:=lH (iK Hnb.out hk);have Hdb:=lH (iK Hdb.out hk);have Ga0:=lH (show w.heap.size≤w.heap.size from tL_ HB.out.size (by omega));have Gb0:=lH (show w.heap.size≤w.heap.size+1 from tL_ HB.out.size (by omega));have Gc0:=lH (show w.heap.size≤w.heap.size+1+1 from tL_ HB.out.size (by omega));have Xa0:=lH xa0;have Xb0:=lH xb0;have Xc0:=lH xc0;have HB:=lH (bC HB.out hb);clear hk hb xa0 xb0 xc0;have Hna:=lH (iK Hna.out (Keep.drew W1));have Hda:=lH (iK Hda.out (Keep.drew W1));have Hnb:=lH (iK Hnb.out (Keep.drew W1));have Hdb:=lH (iK Hdb.out (Keep.drew W1));have Xa0:=lH (Box.drew Xa0.out);have Xb0:=lH (Box.drew Xb0.out);have Xc0:=lH (Box.drew Xc0.out);have HB:=lH (Below.drew HB.out);refine wp_region_float [] [⟨9,5,100,#[.bool false,.slice none 0 0]⟩] (by kernel_rfl) (by kernel_rfl) 41 (by kernel_rfl) (Flok.one (by kernel_rfl) (by kernel_rfl) (by kernel_rfl) (by intro w;go_simp)) ?_;intro ok;have Hok:=lH ok;clear ok;have HG:=lH (bR_ (W1.drew).heap.size (W1.drew));refine good_pureX 0 (some 8) (Go.Op.fieldAddr 34 (Go.Operand.tmp 2) 0) (none) (.pointer (some ⟨w.heap.size,0,none⟩)) (by kernel_rfl) (by kernel_rfl) (by kernel_rfl) (fun _ _ _ h=>h) (fun w' hw'=> ?_) ?_
 ·first|(go_simp;done)|(go_simp;simp_all;done)|(go_simp;rfl)
 simp only[Act.put,sI,sZ,sS];refine good_pureX 1 (some 9) (Go.Op.load 4 (Go.Operand.tmp 8)) (none) (.bool ba) (by kernel_rfl) (by kernel_rfl) (by kernel_rfl) (fun _ _ _ h=>h) (fun w' hw'=> ?_) ?_
 ·obtain⟨ca00,ca01,ca02,fa00,fa01,fa02⟩:=(Box.se hw' Xa0.out notin0).c3
  first|(go_simp;done)|(go_simp;simp_all;done)|(go_simp;rfl)
 simp only[Act.put,sI,sZ,sS];refine good_pureX 2 (some 10) (Go.Op.fieldAddr 34 (Go.Operand.tmp 2) 1) (none) (.pointer (some ⟨w.heap.size,1,none⟩)) (by kernel_rfl) (by kernel_rfl) (by kernel_rfl) (fun _ _ _ h=>h) (fun w' hw'=> ?_) ?_
 ·first|(go_simp;done)|(go_simp;simp_all;done)|(go_simp;rfl)
 simp only[Act.put,sI,sZ,sS];refine good_pureX 3 (some 11) (Go.Op.load 32 (Go.Operand.tmp 10)) (none) (sa) (by kernel_rfl) (by kernel_rfl) (by kernel_rfl) (fun _ _ _ h=>h) (fun w' hw'=> ?_) ?_
 ·obtain⟨ca00,ca01,ca02,fa00,fa01,fa02⟩:=(Box.se hw' Xa0.out notin0).c3
  first|(go_simp;done)|(go_simp;simp_all;done)|(go_simp;rfl)
 simp only[Act.put,sI,sZ,sS];refine good_pureX 4 (some 12) (Go.Op.fieldAddr 34 (Go.Operand.tmp 3) 2) (none) (.pointer (some ⟨w.heap.size+1,2,none⟩)) (by kernel_rfl) (by kernel_rfl) (by kernel_rfl) (fun _ _ _ h=>h) (fun w' hw'=> ?_) ?_
 ·first|(go_simp;done)|(go_simp;simp_all;done)|(go_simp;rfl)
 simp only[Act.put,sI,sZ,sS];refine good_pureX 5 (some 13) (Go.Op.load 32 (Go.Operand.tmp 12)) (none) (tb) (by kernel_rfl) (by kernel_rfl) (by kernel_rfl) (fun _ _ _ h=>h) (fun w' hw'=> ?_) ?_
 ·obtain⟨cb00,cb01,cb02,fb00,fb01,fb02⟩:=(Box.se hw' Xb0.out notin0).c3
  first|(go_simp;done)|(go_simp;simp_all;done)|(go_simp;rfl)
 simp only[Act.put,sI,sZ,sS];refine good_callX 6 73 (some 14) #[Go.Operand.tmp 13] #[32] (none) #[tb] (by kernel_rfl) Hok.out (by kernel_rfl) (by kernel_rfl) (by kernel_rfl) (by kernel_rfl) rfl rfl rfl (by kernel_rfl) (fun w2 hb=> ?_);have HG:=lH (bC HG.out hb);clear hb
 (first|(have hcall:=r3one_is (iK Hdb.out (kC HG.out));refine cM hcall ?_;clear hcall)|refine cM (r3one_is (iK Hdb.out (kC HG.out))) ?_)
 rintro e w3 ⟨v3,rfl,ho,hb⟩;obtain⟨o_a,o_n,o_c,rfl⟩:=ho.lit;refine⟨_,rfl,?_,hb⟩;have HG:=lH (bC HG.out hb);have Ho:=lH ho;clear hb ho;simp only[Act.put,sI,sZ,sS];refine good_callX 7 72 (some 15) #[Go.Operand.tmp 11,Go.Operand.tmp 14] #[32,32] (none) #[sa,.slice o_a o_n o_c] (by kernel_rfl) Hok.out (by kernel_rfl) (by kernel_rfl) (by kernel_rfl) (by kernel_rfl) rfl rfl rfl (by kernel_rfl) (fun w4 hb=> ?_);have Ho:=lH (iK Ho.out (kC hb));have HG:=lH (bC HG.out hb);clear hb
 (first|(have hcall:=rmul_is (iK Hna.out (kC HG.out)) Ho.out (by omega) (by omega);refine cM hcall ?_;clear hcall)|refine cM (rmul_is (iK Hna.out (kC HG.out)) Ho.out (by omega) (by omega)) ?_)
 rintro e w5 ⟨v5,rfl,hx,hb⟩;obtain⟨x_a,x_n,x_c,rfl⟩:=hx.is.lit;refine⟨_,rfl,?_,hb⟩;have HG:=lH (bC HG.out hb);have Hx:=lH hx;clear hb hx;simp only[Act.put,sI,sZ,sS];refine good_pureX 8 (some 16) (Go.Op.build 100 #[(0,Go.Operand.tmp 9),(1,Go.Operand.tmp 15)]) (none) (.agg #[.bool ba,.slice x_a x_n x_c]) (by kernel_rfl) (by kernel_rfl) (by kernel_rfl) (fun _ _ _ h=>h) (fun w' hw'=> ?_) ?_
 ·first|(go_simp;done)|(go_simp;simp_all;done)|(go_simp;rfl)
 simp only[Act.put,sI,sZ,sS];refine good_end1 1 Hok.out (by kernel_rfl) (by kernel_rfl) (by kernel_rfl) (fun _ gd0 w6 hb ed0 xd0=> ?_);have Hx:=lH (Can.keep Hx.out (kC hb));have HG:=lH (bC HG.out hb);clear hb;have Na0d0:=lH (show w.heap.size≠gd0 from Nat.ne_of_lt (Nat.lt_of_lt_of_le Xa0.out.lt ed0));have Nb0d0:=lH (show w.heap.size+1≠gd0 from Nat.ne_of_lt (Nat.lt_of_lt_of_le Xb0.out.lt ed0));have Nc0d0:=lH (show w.heap.size+1+1≠gd0 from Nat.ne_of_lt (Nat.lt_of_lt_of_le Xc0.out.lt ed0));have Gd0:=lH (show w.heap.size≤gd0 from tL_ HB.out.size ed0);have Ed0:=lH ed0;clear ed0;have Hda:=lH (iK Hda.out (kC HG.out));have Hnb:=lH (iK Hnb.out (kC HG.out));have Hdb:=lH (iK Hdb.out (kC HG.out));have Xa0:=lH (xP HG.out Xa0.out);have Xb0:=lH (xP HG.out Xb0.out);have Xc0:=lH (xP HG.out Xc0.out);have HB:=lH (bC HB.out HG.out);have HS:=lH (SE.of (E:=[]) HG.out);have Xd0:=lH xd0;clear xd0;simp only[Act.put,sI,sZ,sS];refine held_oneX 10 (Go.Op.store 100 (Go.Operand.tmp 5) (Go.Operand.tmp 16)) (none) (World.setCell (World.setCell w6 ⟨gd0,0,none⟩ (.bool ba)) ⟨gd0,1,none⟩ (.slice x_a x_n x_c)) (by kernel_rfl) (by kernel_rfl) (by kernel_rfl) (by kernel_rfl) ?_ (HS.out.store2 (.inr Ed0.out)) ?_
 ·obtain⟨cd00,cd01,fd00,fd01⟩:=Xd0.out.c2
  first|(go_simp;done)|(go_simp;simp_all;done)|(go_simp;rfl)
 obtain⟨W7,hW⟩:∃W7,W7=(World.setCell (World.setCell w6 ⟨gd0,0,none⟩ (.bool ba)) ⟨gd0,1,none⟩ (.slice x_a x_n x_c)):=⟨_,rfl⟩;rw[←hW];obtain⟨xd0,hk,hf,hbb,hz⟩:=stored2s hW Xd0.out (by first|exact nB_ _|exact nS_ _ _ _) (by first|exact nB_ _|exact nS_ _ _ _);have Hda:=lH (iK Hda.out hk);have Hnb:=lH (iK Hnb.out hk);have Hdb:=lH (iK Hdb.out hk);have Hx:=lH (Can.keep Hx.out hk);have Xa0:=lH (hf _ _ _ Xa0.out Na0d0.out);have Xb0:=lH (hf _ _ _ Xb0.out Nb0d0.out);have Xc0:=lH (hf _ _ _ Xc0.out Nc0d0.out);have Xd0:=lH xd0;have HB:=lH (hbb _ HB.out Gd0.out);have HS:=lH (show SE (W1.drew) [] W7 from by rw[hW];exact HS.out.store2 (.inr Ed0.out));clear hW hk hf hbb xd0;clear hz;refine wpAnyH_done (by kernel_rfl) ?_ _;clear HG HS Hok Ed0;obtain⟨ca00,ca01,ca02,fa00,fa01,fa02⟩:=Xa0.out.c3;have la0:=Xa0.out.lt;obtain⟨cb00,cb01,cb02,fb00,fb01,fb02⟩:=Xb0.out.c3;have lb0:=Xb0.out.lt;obtain⟨cc00,cc01,cc02,fc00,fc01,fc02⟩:=Xc0.out.c3;have lc0:=Xc0.out.lt;obtain⟨cd00,cd01,fd00,fd01⟩:=Xd0.out.c2;have ld0:=Xd0.out.lt
 go_wp2_with fail
 clear ca00 ca01 ca02 fa00 fa01 fa02 la0 cb00 cb01 cb02 fb00 fb01 fb02 lb0 cc00 cc01 cc02 fc00 fc01 fc02 lc0 cd00 cd01 fd00 fd01 ld0;have Hda:=lH (iK Hda.out (Keep.drew W7));have Hnb:=lH (iK Hnb.out (Keep.drew W7));have Hdb:=lH (iK Hdb.out (Keep.drew W7));have Hx:=lH (Can.keep Hx.out (Keep.drew W7));have Xa0:=lH (Box.drew Xa0.out);have Xb0:=lH (Box.drew Xb0.out);have Xc0:=lH (Box.drew Xc0.out);have Xd0:=lH (Box.drew Xd0.out);have HB:=lH (Below.drew HB.out);refine wp_region_float [] [⟨9,6,100,#[.bool false,.slice none 0 0]⟩] (by kernel_rfl) (by kernel_rfl) 41 (by kernel_rfl) (Flok.one (by kernel_rfl) (by kernel_rfl) (by kernel_rfl) (by intro w;go_simp)) ?_;intro ok;have Hok:=lH ok;clear ok;have HG:=lH (bR_ (W7.drew).heap.size (W7.drew));refine good_pureX 0 (some 17) (Go.Op.fieldAddr 34 (Go.Operand.tmp 3) 0) (none) (.pointer (some ⟨w.heap.size+1,0,none⟩)) (by kernel_rfl) (by kernel_rfl) (by kernel_rfl) (fun _ _ _ h=>h) (fun w' hw'=> ?_) ?_
 ·first|(go_simp;done)|(go_simp;simp_all;done)|(go_simp;rfl)
 simp only[Act.put,sI,sZ,sS];refine good_pureX 1 (some 18) (Go.Op.load 4 (Go.Operand.tmp 17)) (none) (.bool bb) (by kernel_rfl) (by kernel_rfl) (by kernel_rfl) (fun _ _ _ h=>h) (fun w' hw'=> ?_) ?_
 ·obtain⟨cb00,cb01,cb02,fb00,fb01,fb02⟩:=(Box.se hw' Xb0.out notin0).c3
  first|(go_simp;done)|(go_simp;simp_all;done)|(go_simp;rfl)
 simp only[Act.put,sI,sZ,sS];refine good_pureX 2 (some 19) (Go.Op.fieldAddr 34 (Go.Operand.tmp 3) 1) (none) (.pointer (some ⟨w.heap.size+1,1,none⟩)) (by kernel_rfl) (by kernel_rfl) (by kernel_rfl) (fun _ _ _ h=>h) (fun w' hw'=> ?_) ?_
 ·first|(go_simp;done)|(go_simp;simp_all;done)|(go_simp;rfl)
 simp only[Act.put,sI,sZ,sS];refine good_pureX 3 (some 20) (Go.Op.load 32 (Go.Operand.tmp 19)) (none) (sb) (by kernel_rfl) (by kernel_rfl) (by kernel_rfl) (fun _ _ _ h=>h) (fun w' hw'=> ?_) ?_
 ·obtain⟨cb00,cb01,cb02,fb00,fb01,fb02⟩:=(Box.se hw' Xb0.out notin0).c3
  first|(go_simp;done)|(go_simp;simp_all;done)|(go_simp;rfl)
 simp only[Act.put,sI,sZ,sS];refine good_pureX 4 (some 21) (Go.Op.fieldAddr 34 (Go.Operand.tmp 2) 2) (none) (.pointer (some ⟨w.heap.size,2,none⟩)) (by kernel_rfl) (by kernel_rfl) (by kernel_rfl) (fun _ _ _ h=>h) (fun w' hw'=> ?_) ?_
 ·first|(go_simp;done)|(go_simp;simp_all;done)|(go_simp;rfl)
 simp only[Act.put,sI,sZ,sS];refine good_pureX 5 (some 22) (Go.Op.load 32 (Go.Operand.tmp 21)) (none) (ta) (by kernel_rfl) (by kernel_rfl) (by kernel_rfl) (fun _ _ _ h=>h) (fun w' hw'=> ?_) ?_
 ·obtain⟨ca00,ca01,ca02,fa00,fa01,fa02⟩:=(Box.se hw' Xa0.out notin0).c3
  first|(go_simp;done)|(go_simp;simp_all;done)|(go_simp;rfl)
 simp only[Act.put,sI,sZ,sS];refine good_callX 6 73 (some 23) #[Go.Operand.tmp 22] #[32] (none) #[ta] (by kernel_rfl) Hok.out (by kernel_rfl) (by kernel_rfl) (by kernel_rfl) (by kernel_rfl) rfl rfl rfl (by kernel_rfl) (fun w8 hb=> ?_);have HG:=lH (bC HG.out hb);clear hb
 (first|(have hcall:=r3one_is (iK Hda.out (kC HG.out));refine cM hcall ?_;clear hcall)|refine cM (r3one_is (iK Hda.out (kC HG.out))) ?_)
 rintro e w9 ⟨v9,rfl,hp,hb⟩;obtain⟨p_a,p_n,p_c,rfl⟩:=hp.lit;refine⟨_,rfl,?_,hb⟩;have HG:=lH (bC HG.out hb);have Hp:=lH hp;clear hb hp;simp only[Act.put,sI,sZ,sS];refine good_callX 7 72 (some 24) #[Go.Operand.tmp 20,Go.Operand.tmp 23] #[32,32] (none) #[sb,.slice p_a p_n p_c] (by kernel_rfl) Hok.out (by kernel_rfl) (by kernel_rfl) (by kernel_rfl) (by kernel_rfl) rfl rfl rfl (by kernel_rfl) (fun w10 hb=> ?_);have Hp:=lH (iK Hp.out (kC hb));have HG:=lH (bC HG.out hb);clear hb
 (first|(have hcall:=rmul_is (iK Hnb.out (kC HG.out)) Hp.out (by omega) (by omega);refine cM hcall ?_;clear hcall)|refine cM (rmul_is (iK Hnb.out (kC HG.out)) Hp.out (by omega) (by omega)) ?_)
 rintro e w11 ⟨v11,rfl,hv,hb⟩;obtain⟨v_a,v_n,v_c,rfl⟩:=hv.is.lit;refine⟨_,rfl,?_,hb⟩;have HG:=lH (bC HG.out hb);have Hv:=lH hv;clear hb hv;simp only[Act.put,sI,sZ,sS];refine good_pureX 8 (some 25) (Go.Op.build 100 #[(0,Go.Operand.tmp 18),(1,Go.Operand.tmp 24)]) (none) (.agg #[.bool bb,.slice v_a v_n v_c]) (by kernel_rfl) (by kernel_rfl) (by kernel_rfl) (fun _ _ _ h=>h) (fun w' hw'=> ?_) ?_
 ·first|(go_simp;done)|(go_simp;simp_all;done)|(go_simp;rfl)
 simp only[Act.put,sI,sZ,sS];refine good_end1 1 Hok.out (by kernel_rfl) (by kernel_rfl) (by kernel_rfl) (fun _ ge0 w12 hb ee0 xe0=> ?_);have Hv:=lH (Can.keep Hv.out (kC hb));have HG:=lH (bC HG.out hb);clear hb;have Na0e0:=lH (show w.heap.size≠ge0 from Nat.ne_of_lt (Nat.lt_of_lt_of_le Xa0.out.lt ee0));have Nb0e0:=lH (show w.heap.size+1≠ge0 from Nat.ne_of_lt (Nat.lt_of_lt_of_le Xb0.out.lt ee0));have Nc0e0:=lH (show w.heap.size+1+1≠ge0 from Nat.ne_of_lt (Nat.lt_of_lt_of_le Xc0.out.lt ee0));have Nd0e0:=lH (show gd0≠ge0 from Nat.ne_of_lt (Nat.lt_of_lt_of_le Xd0.out.lt ee0));have Ge0:=lH (show w.heap.size≤ge0 from tL_ HB.out.size ee0);have Ee0:=lH ee0;clear ee0;have Hda:=lH (iK Hda.out (kC HG.out));have Hdb:=lH (iK Hdb.out (kC HG.out));have Hx:=lH (Can.keep Hx.out (kC HG.out));have Xa0:=lH (xP HG.out Xa0.out);have Xb0:=lH (xP HG.out Xb0.out);have Xc0:=lH (xP HG.out Xc0.out);have Xd0:=lH (xP HG.out Xd0.out);have HB:=lH (bC HB.out HG.out);have HS:=lH (SE.of (E:=[]) HG.out);have Xe0:=lH xe0;clear xe0;simp only[Act.put,sI,sZ,sS];refine held_oneX 10 (Go.Op.store 100 (Go.Operand.tmp 6) (Go.Operand.tmp 25)) (none) (World.setCell (World.setCell w12 ⟨ge0,0,none⟩ (.bool bb)) ⟨ge0,1,none⟩ (.slice v_a v_n v_c)) (by kernel_rfl) (by kernel_rfl) (by kernel_rfl) (by kernel_rfl) ?_ (HS.out.store2 (.inr Ee0.out)) ?_
 ·obtain⟨ce00,ce01,fe00,fe01⟩:=Xe0.out.c2
  first|(go_simp;done)|(go_simp;simp_all;done)|(go_simp;rfl)
 obtain⟨W13,hW⟩:∃W13,W13=(World.setCell (World.setCell w12 ⟨ge0,0,none⟩ (.bool bb)) ⟨ge0,1,none⟩ (.slice v_a v_n v_c)):=⟨_,rfl⟩;rw[←hW];obtain⟨xe0,hk,hf,hbb,hz⟩:=stored2s hW Xe0.out (by first|exact nB_ _|exact nS_ _ _ _) (by first|exact nB_ _|exact nS_ _ _ _);have Hda:=lH (iK Hda.out hk);have Hdb:=lH (iK Hdb.out hk);have Hx:=lH (Can.keep Hx.out hk);have Hv:=lH (Can.keep Hv.out hk);have Xa0:=lH (hf _ _ _ Xa0.out Na0e0.out);have Xb0:=lH (hf _ _ _ Xb0.out Nb0e0.out);have Xc0:=lH (hf _ _ _ Xc0.out Nc0e0.out);have Xd0:=lH (hf _ _ _ Xd0.out Nd0e0.out);have Xe0:=lH xe0;have HB:=lH (hbb _ HB.out Ge0.out);have HS:=lH (show SE (W7.drew) [] W13 from by rw[hW];exact HS.out.store2 (.inr Ee0.out));clear hW hk hf hbb xe0;clear hz;refine wpAnyH_done (by kernel_rfl) ?_ _;clear HG HS Hok Ee0;obtain⟨ca00,ca01,ca02,fa00,fa01,fa02⟩:=Xa0.out.c3;have la0:=Xa0.out.lt;obtain⟨cb00,cb01,cb02,fb00,fb01,fb02⟩:=Xb0.out.c3;have lb0:=Xb0.out.lt;obtain⟨cc00,cc01,cc02,fc00,fc01,fc02⟩:=Xc0.out.c3;have lc0:=Xc0.out.lt;obtain⟨cd00,cd01,fd00,fd01⟩:=Xd0.out.c2;have ld0:=Xd0.out.lt;obtain⟨ce00,ce01,fe00,fe01⟩:=Xe0.out.c2;have le0:=Xe0.out.lt
 go_wp2_with fail
 clear ca00 ca01 ca02 fa00 fa01 fa02 la0 cb00 cb01 cb02 fb00 fb01 fb02 lb0 cc00 cc01 cc02 fc00 fc01 fc02 lc0 cd00 cd01 fd00 fd01 ld0 ce00 ce01 fe00 fe01 le0
 (first|(have hcall:=riadd_ai (AI.mk (n:=ba) Hx.out.is) (AI.mk (n:=bb) Hv.out.is) (by omega) (by omega);refine cM hcall ?_;clear hcall)|refine cM (riadd_ai (AI.mk (n:=ba) Hx.out.is) (AI.mk (n:=bb) Hv.out.is) (by omega) (by omega)) ?_)
 rintro e w14 ⟨v14,rfl,hs,hb⟩;obtain⟨s_b,s_a,s_n,s_c,rfl⟩:=hs.litb;have Hda:=lH (iK Hda.out (kC hb));have Hdb:=lH (iK Hdb.out (kC hb));have Xa0:=lH (xP hb Xa0.out);have Xb0:=lH (xP hb Xb0.out);have Xc0:=lH (xP hb Xc0.out);have Xd0:=lH (xP hb Xd0.out);have Xe0:=lH (xP hb Xe0.out);have HB:=lH (bC HB.out hb);have Hs:=lH hs;clear hb hs;obtain⟨ca00,ca01,ca02,fa00,fa01,fa02⟩:=Xa0.out.c3;have la0:=Xa0.out.lt;obtain⟨cb00,cb01,cb02,fb00,fb01,fb02⟩:=Xb0.out.c3;have lb0:=Xb0.out.lt;obtain⟨cc00,cc01,cc02,fc00,fc01,fc02⟩:=Xc0.out.c3;have lc0:=Xc0.out.lt;obtain⟨cd00,cd01,fd00,fd01⟩:=Xd0.out.c2;have ld0:=Xd0.out.lt;obtain⟨ce00,ce01,fe00,fe01⟩:=Xe0.out.c2;have le0:=Xe0.out.lt
 go_wp2_with fail
 clear ca00 ca01 ca02 fa00 fa01 fa02 la0 cb00 cb01 cb02 fb00 fb01 fb02 lb0 cc00 cc01 cc02 fc00 fc01 fc02 lc0 cd00 cd01 fd00 fd01 ld0 ce00 ce01 fe00 fe01 le0;obtain⟨W15,hW⟩:∃W15,W15=(World.alloc w14 (.cells #[.bool s_b,.slice s_a s_n s_c] 100)):=⟨_,rfl⟩;rw[←hW];obtain⟨xf0,hk,hb⟩:=boxes_1 _ _ _ hW;clear hW;have Hda:=lH (iK Hda.out hk);have Hdb:=lH (iK Hdb.out hk);have Hs:=lH (CL.keep Hs.out hk);have Na0f0:=lH (show w.heap.size≠w14.heap.size from Nat.ne_of_lt (Nat.lt_of_lt_of_le Xa0.out.lt (by omega)));have Nb0f0:=lH (show w.heap.size+1≠w14.heap.size from Nat.ne_of_lt (Nat.lt_of_lt_of_le Xb0.out.lt (by omega)));have Nc0f0:=lH (show w.heap.size+1+1≠w14.heap.size from Nat.ne_of_lt (Nat.lt_of_lt_of_le Xc0.out.lt (by omega)));have Nd0f0:=lH (show gd0≠w14.heap.size from Nat.ne_of_lt (Nat.lt_of_lt_of_le Xd0.out.lt (by omega)));have Ne0f0:=lH (show ge0≠w14.heap.size from Nat.ne_of_lt (Nat.lt_of_lt_of_le Xe0.out.lt (by omega)));have Gf0:=lH (show w.heap.size≤w14.heap.size from tL_ HB.out.size (by omega));have Xa0:=lH (xP hb Xa0.out);have Xb0:=lH (xP hb Xb0.out);have Xc0:=lH (xP hb Xc0.out);have Xd0:=lH (xP hb Xd0.out);have Xe0:=lH (xP hb Xe0.out);have Xf0:=lH xf0;have HB:=lH (bC HB.out hb);clear hk hb xf0;have Hda:=lH (iK Hda.out (Keep.drew W15));have Hdb:=lH (iK Hdb.out (Keep.drew W15));have Hs:=lH (CL.keep Hs.out (Keep.drew W15));have Xa0:=lH (Box.drew Xa0.out);have Xb0:=lH (Box.drew Xb0.out);have Xc0:=lH (Box.drew Xc0.out);have Xd0:=lH (Box.drew Xd0.out);have Xe0:=lH (Box.drew Xe0.out);have Xf0:=lH (Box.drew Xf0.out);have HB:=lH (Below.drew HB.out);refine wp_region_float [w.heap.size+1+1] [] (by kernel_rfl) (by kernel_rfl) 41 (by kernel_rfl) Flok.nil ?_;intro ok;have Hok:=lH ok;clear ok;have HG:=lH (bR_ (W15.drew).heap.size (W15.drew));refine good_pureX 0 (some 29) (Go.Op.fieldAddr 100 (Go.Operand.tmp 7) 0) (none) (.pointer (some ⟨w14.heap.size,0,none⟩)) (by kernel_rfl) (by kernel_rfl) (by kernel_rfl) (fun _ _ _ h=>h) (fun w' hw'=> ?_) ?_
 ·first|(go_simp;done)|(go_simp;simp_all;done)|(go_simp;rfl)
 simp only[Act.put,sI,sZ,sS];refine good_pureX 1 (some 30) (Go.Op.load 4 (Go.Operand.tmp 29)) (none) (.bool s_b) (by kernel_rfl) (by kernel_rfl) (by kernel_rfl) (fun _ _ _ h=>h) (fun w' hw'=> ?_) ?_
 ·obtain⟨cf00,cf01,ff00,ff01⟩:=(Box.se hw' Xf0.out (notin1 Nc0f0.out.symm)).c2
  first|(go_simp;done)|(go_simp;simp_all;done)|(go_simp;rfl)
 simp only[Act.put,sI,sZ,sS];refine good_pureX 2 (some 31) (Go.Op.fieldAddr 100 (Go.Operand.tmp 7) 1) (none) (.pointer (some ⟨w14.heap.size,1,none⟩)) (by kernel_rfl) (by kernel_rfl) (by kernel_rfl) (fun _ _ _ h=>h) (fun w' hw'=> ?_) ?_
 ·first|(go_simp;done)|(go_simp;simp_all;done)|(go_simp;rfl)
 simp only[Act.put,sI,sZ,sS];refine good_pureX 3 (some 32) (Go.Op.load 32 (Go.Operand.tmp 31)) (none) (.slice s_a s_n s_c) (by kernel_rfl) (by kernel_rfl) (by kernel_rfl) (fun _ _ _ h=>h) (fun w' hw'=> ?_) ?_
 ·obtain⟨cf00,cf01,ff00,ff01⟩:=(Box.se hw' Xf0.out (notin1 Nc0f0.out.symm)).c2
  first|(go_simp;done)|(go_simp;simp_all;done)|(go_simp;rfl)
 simp only[Act.put,sI,sZ,sS];refine good_pureX 4 (some 33) (Go.Op.fieldAddr 34 (Go.Operand.tmp 2) 2) (none) (.pointer (some ⟨w.heap.size,2,none⟩)) (by kernel_rfl) (by kernel_rfl) (by kernel_rfl) (fun _ _ _ h=>h) (fun w' hw'=> ?_) ?_
 ·first|(go_simp;done)|(go_simp;simp_all;done)|(go_simp;rfl)
 simp only[Act.put,sI,sZ,sS];refine good_pureX 5 (some 34) (Go.Op.load 32 (Go.Operand.tmp 33)) (none) (ta) (by kernel_rfl) (by kernel_rfl) (by kernel_rfl) (fun _ _ _ h=>h) (fun w' hw'=> ?_) ?_
 ·obtain⟨ca00,ca01,ca02,fa00,fa01,fa02⟩:=(Box.se hw' Xa0.out (notin1 (by omega))).c3
  first|(go_simp;done)|(go_simp;simp_all;done)|(go_simp;rfl)
 simp only[Act.put,sI,sZ,sS];refine good_pureX 7 (some 36) (Go.Op.fieldAddr 34 (Go.Operand.tmp 3) 2) (none) (.pointer (some ⟨w.heap.size+1,2,none⟩)) (by kernel_rfl) (by kernel_rfl) (by kernel_rfl) (fun _ _ _ h=>h) (fun w' hw'=> ?_) ?_
 ·first|(go_simp;done)|(go_simp;simp_all;done)|(go_simp;rfl)
 simp only[Act.put,sI,sZ,sS];refine good_pureX 8 (some 37) (Go.Op.load 32 (Go.Operand.tmp 36)) (none) (tb) (by kernel_rfl) (by kernel_rfl) (by kernel_rfl) (fun _ _ _ h=>h) (fun w' hw'=> ?_) ?_
 ·obtain⟨cb00,cb01,cb02,fb00,fb01,fb02⟩:=(Box.se hw' Xb0.out (notin1 (by omega))).c3
  first|(go_simp;done)|(go_simp;simp_all;done)|(go_simp;rfl)
 simp only[Act.put,sI,sZ,sS];refine good_callX 6 73 (some 35) #[Go.Operand.tmp 34] #[32] (none) #[ta] (by kernel_rfl) Hok.out (by kernel_rfl) (by kernel_rfl) (by kernel_rfl) (by kernel_rfl) rfl rfl rfl (by kernel_rfl) (fun w16 hb=> ?_);have HG:=lH (bC HG.out hb);clear hb
 (first|(have hcall:=r3one_is (iK Hda.out (kC HG.out));refine cM hcall ?_;clear hcall)|refine cM (r3one_is (iK Hda.out (kC HG.out))) ?_)
 rintro e w17 ⟨v17,rfl,hq,hb⟩;obtain⟨q_a,q_n,q_c,rfl⟩:=hq.lit;refine⟨_,rfl,?_,hb⟩;have HG:=lH (bC HG.out hb);have Hq:=lH hq;clear hb hq;simp only[Act.put,sI,sZ,sS];refine good_callX 9 73 (some 38) #[Go.Operand.tmp 37] #[32] (none) #[tb] (by kernel_rfl) Hok.out (by kernel_rfl) (by kernel_rfl) (by kernel_rfl) (by kernel_rfl) rfl rfl rfl (by kernel_rfl) (fun w18 hb=> ?_);have Hq:=lH (iK Hq.out (kC hb));have HG:=lH (bC HG.out hb);clear hb
 (first|(have hcall:=r3one_is (iK Hdb.out (kC HG.out));refine cM hcall ?_;clear hcall)|refine cM (r3one_is (iK Hdb.out (kC HG.out))) ?_)
 rintro e w19 ⟨v19,rfl,hr,hb⟩;obtain⟨r_a,r_n,r_c,rfl⟩:=hr.lit;refine⟨_,rfl,?_,hb⟩;have Hq:=lH (iK Hq.out (kC hb));have HG:=lH (bC HG.out hb);have Hr:=lH hr;clear hb hr;simp only[Act.put,sI,sZ,sS];refine good_callX 10 72 (some 39) #[Go.Operand.tmp 35,Go.Operand.tmp 38] #[32,32] (none) #[.slice q_a q_n q_c,.slice r_a r_n r_c] (by kernel_rfl) Hok.out (by kernel_rfl) (by kernel_rfl) (by kernel_rfl) (by kernel_rfl) rfl rfl rfl (by kernel_rfl) (fun w20 hb=> ?_);have Hq:=lH (iK Hq.out (kC hb));have Hr:=lH (iK Hr.out (kC hb));have HG:=lH (bC HG.out hb);clear hb
 (first|(have hcall:=rmul_is Hq.out Hr.out (by omega) (by omega);refine cM hcall ?_;clear hcall)|refine cM (rmul_is Hq.out Hr.out (by omega) (by omega)) ?_)
 rintro e w21 ⟨v21,rfl,hm,hb⟩;obtain⟨m_a,m_n,m_c,rfl⟩:=hm.is.lit;refine⟨_,rfl,?_,hb⟩;have HG:=lH (bC HG.out hb);have Hm:=lH hm;clear hb hm;simp only[Act.put,sI,sZ,sS];refine good_callX 11 71 (some 40) #[Go.Operand.tmp 30,Go.Operand.tmp 32,Go.Operand.tmp 39] #[4,32,32] (none) #[.bool s_b,.slice s_a s_n s_c,.slice m_a m_n m_c] (by kernel_rfl) Hok.out (by kernel_rfl) (by kernel_rfl) (by kernel_rfl) (by kernel_rfl) rfl rfl rfl (by kernel_rfl) (fun w22 hb=> ?_);have Hm:=lH (Can.keep Hm.out (kC hb));have HG:=lH (bC HG.out hb);clear hb;refine cM (r3quot_is (neg:=s_b) (Nat.mul_pos (un_pos _) (un_pos _)) (CL.keep Hs.out (kC HG.out)).mag.is Hm.out.is (by omega) (by omega)) ?_;rintro e w23 ⟨v23,rfl,hz,hb⟩;obtain⟨z_b,z_a,z_n,z_c,z_d,z_m,z_e,rfl⟩:=hz.litb;refine⟨_,rfl,?_,hb⟩;have HG:=lH (bC HG.out hb);have Hz:=lH hz;clear hb hz;simp only[Act.put,sI,sZ,sS];refine good_end0 1 (by kernel_rfl) (fun _ w24 hb=> ?_);have Hz:=lH (CR.keep Hz.out (kC hb));have HG:=lH (bC HG.out hb);clear hb;have Hs:=lH (CL.keep Hs.out (kC HG.out));have Xa0:=lH (xP HG.out Xa0.out);have Xb0:=lH (xP HG.out Xb0.out);have Xc0:=lH (xP HG.out Xc0.out);have Xd0:=lH (xP HG.out Xd0.out);have Xe0:=lH (xP HG.out Xe0.out);have Xf0:=lH (xP HG.out Xf0.out);have HB:=lH (bC HB.out HG.out);have HS:=lH (SE.of (E:=[w.heap.size+1+1]) HG.out);refine held_oneX 12 (Go.Op.store 34 (Go.Operand.tmp 4) (Go.Operand.tmp 40)) (none) (World.setCell (World.setCell (World.setCell w24 ⟨w.heap.size+1+1,0,none⟩ (.bool z_b)) ⟨w.heap.size+1+1,1,none⟩ (.slice z_a z_n z_c)) ⟨w.heap.size+1+1,2,none⟩ (.slice z_d z_m z_e)) (by kernel_rfl) (by kernel_rfl) (by kernel_rfl) (by kernel_rfl) ?_ (HS.out.store3 in1) ?_
 ·obtain⟨cc00,cc01,cc02,fc00,fc01,fc02⟩:=Xc0.out.c3
  first|(go_simp;done)|(go_simp;simp_all;done)|(go_simp;rfl)
 obtain⟨W25,hW⟩:∃W25,W25=(World.setCell (World.setCell (World.setCell w24 ⟨w.heap.size+1+1,0,none⟩ (.bool z_b)) ⟨w.heap.size+1+1,1,none⟩ (.slice z_a z_n z_c)) ⟨w.heap.size+1+1,2,none⟩ (.slice z_d z_m z_e)):=⟨_,rfl⟩;rw[←hW];obtain⟨xc0,hk,hf,hbb,hz⟩:=stored3s hW Xc0.out (by first|exact nB_ _|exact nS_ _ _ _) (by first|exact nB_ _|exact nS_ _ _ _) (by first|exact nB_ _|exact nS_ _ _ _);have Hs:=lH (CL.keep Hs.out hk);have Hz:=lH (CR.keep Hz.out hk);have Xa0:=lH (hf _ _ _ Xa0.out (by omega));have Xb0:=lH (hf _ _ _ Xb0.out (by omega));have Xc0:=lH xc0;have Xd0:=lH (hf _ _ _ Xd0.out Nc0d0.out.symm);have Xe0:=lH (hf _ _ _ Xe0.out Nc0e0.out.symm);have Xf0:=lH (hf _ _ _ Xf0.out Nc0f0.out.symm);have HB:=lH (hbb _ HB.out Gc0.out);have HS:=lH (show SE (W15.drew) [w.heap.size+1+1] W25 from by rw[hW];exact HS.out.store3 in1);clear hW hk hf hbb xc0;clear hz;refine wpAnyH_done (by kernel_rfl) ?_ _;clear HG HS Hok;obtain⟨ca00,ca01,ca02,fa00,fa01,fa02⟩:=Xa0.out.c3;have la0:=Xa0.out.lt;obtain⟨cb00,cb01,cb02,fb00,fb01,fb02⟩:=Xb0.out.c3;have lb0:=Xb0.out.lt;obtain⟨cc00,cc01,cc02,fc00,fc01,fc02⟩:=Xc0.out.c3;have lc0:=Xc0.out.lt;obtain⟨cd00,cd01,fd00,fd01⟩:=Xd0.out.c2;have ld0:=Xd0.out.lt;obtain⟨ce00,ce01,fe00,fe01⟩:=Xe0.out.c2;have le0:=Xe0.out.lt;obtain⟨cf00,cf01,ff00,ff01⟩:=Xf0.out.c2;have lf0:=Xf0.out.lt;go_wp2;clear ca00 ca01 ca02 fa00 fa01 fa02 la0 cb00 cb01 cb02 fb00 fb01 fb02 lb0 cc00 cc01 cc02 fc00 fc01 fc02 lc0 cd00 cd01 fd00 fd01 ld0 ce00 ce01 fe00 fe01 le0 cf00 cf01 ff00 ff01 lf0;exact ret_rat1 rfl rfl rfl Xc0.out (CR.mono (CR.cast (zadd_parts (CL.iv Hs.out)) Hz.out) (by omega)) HB.out
theorem zadd_ar {a b:Rat}{L M:Nat}{u v:Value}{w:World}(h:AR a L w u)(h':AR b M w v)(hL:L≤100000000)(hM:M≤100000000):Calls Tryz.prog 77 #[u,v] w (Ret w (CR (a+b) (L+M+3))):=by
 obtain⟨ba,sa,ta,na,da,rfl,h1,h2,rfl⟩:=h;obtain⟨bb,sb,tb,nb,db,rfl,h3,h4,rfl⟩:=h';exact zadd_p h1 h2 h3 h4 hL hM
theorem zsub_p {L M:Nat}{qa:Rat}{ba:Bool}{sa ta:Value}{qb:Rat}{bb:Bool}{sb tb:Value}{w:World}(ha:AR qa L w (.agg #[.bool ba,sa,ta]))(hb:AR qb M w (.agg #[.bool bb,sb,tb]))(hL:L≤100000000)(hM:M≤100000000):
  Calls Tryz.prog 39 #[.agg #[.bool ba,sa,ta],.agg #[.bool bb,sb,tb]] w (Ret w (CR (qa-qb) (L+max M 1+3))):=by
 have Ha:=lH ha;have Hb:=lH hb;clear ha hb
 go_enter Tryz.func39,Tryz.ntmps39
 have HB:=lH (bR_ w.heap.size w)
 go_wp2_with fail
 obtain⟨W1,hW⟩:∃W1,W1=(World.alloc (World.alloc (World.alloc w (.cells #[.bool ba,sa,ta] 34)) (.cells #[.bool bb,sb,tb] 34)) (.cells #[.bool false,.slice none 0 0,.slice none 0 0] 34)):=⟨_,rfl⟩;rw[←hW];obtain⟨xa0,xb0,xc0,hk,hb⟩:=boxes_3 _ _ _ _ _ _ _ hW;clear hW;have Ha:=lH (AR.keep Ha.out hk);have Hb:=lH (AR.keep Hb.out hk);have Ga0:=lH (show w.heap.size≤w.heap.size from tL_ HB.out.size (by omega));have Gb0:=lH (show w.heap.size≤w.heap.size+1 from tL_ HB.out.size (by omega));have Gc0:=lH (show w.heap.size≤w.heap.size+1+1 from tL_ HB.out.size (by omega));have Xa0:=lH xa0;have Xb0:=lH xb0;have Xc0:=lH xc0;have HB:=lH (bC HB.out hb);clear hk hb xa0 xb0 xc0;have Ha:=lH (AR.keep Ha.out (Keep.drew W1));have Hb:=lH (AR.keep Hb.out (Keep.drew W1));have Xa0:=lH (Box.drew Xa0.out);have Xb0:=lH (Box.drew Xb0.out);have Xc0:=lH (Box.drew Xc0.out);have HB:=lH (Below.drew HB.out);refine wp_region_float [w.heap.size+1+1] [] (by kernel_rfl) (by kernel_rfl) 9 (by kernel_rfl) Flok.nil ?_;intro ok;have Hok:=lH ok;clear ok;have HG:=lH (bR_ (W1.drew).heap.size (W1.drew));refine good_pureX 0 (some 5) (Go.Op.load 34 (Go.Operand.tmp 2)) (none) (.agg #[.bool ba,sa,ta]) (by kernel_rfl) (by kernel_rfl) (by kernel_rfl) (fun _ _ _ h=>h) (fun w' hw'=> ?_) ?_
 ·obtain⟨ca00,ca01,ca02,fa00,fa01,fa02⟩:=(Box.se hw' Xa0.out (notin1 (by omega))).c3
  first|(go_simp;done)|(go_simp;simp_all;done)|(go_simp;rfl)
 simp only[Act.put,sI,sZ,sS];refine good_pureX 1 (some 6) (Go.Op.load 34 (Go.Operand.tmp 3)) (none) (.agg #[.bool bb,sb,tb]) (by kernel_rfl) (by kernel_rfl) (by kernel_rfl) (fun _ _ _ h=>h) (fun w' hw'=> ?_) ?_
 ·obtain⟨cb00,cb01,cb02,fb00,fb01,fb02⟩:=(Box.se hw' Xb0.out (notin1 (by omega))).c3
  first|(go_simp;done)|(go_simp;simp_all;done)|(go_simp;rfl)
 simp only[Act.put,sI,sZ,sS];refine good_callX 2 13 (some 7) #[Go.Operand.tmp 6] #[34] (none) #[.agg #[.bool bb,sb,tb]] (by kernel_rfl) Hok.out (by kernel_rfl) (by kernel_rfl) (by kernel_rfl) (by kernel_rfl) rfl rfl rfl (by kernel_rfl) (fun w2 hb=> ?_);have HG:=lH (bC HG.out hb);clear hb
 (first|(have hcall:=zneg_ar (AR.keep Hb.out (kC HG.out)) (by omega);refine cM hcall ?_;clear hcall)|refine cM (zneg_ar (AR.keep Hb.out (kC HG.out)) (by omega)) ?_)
 rintro e w3 ⟨v3,rfl,hn,hb⟩;obtain⟨n_b,n_a,n_n,n_c,n_d,n_m,n_e,rfl⟩:=hn.litb;refine⟨_,rfl,?_,hb⟩;have HG:=lH (bC HG.out hb);have Hn:=lH hn;clear hb hn;simp only[Act.put,sI,sZ,sS];refine good_callX 3 77 (some 8) #[Go.Operand.tmp 5,Go.Operand.tmp 7] #[34,34] (none) #[.agg #[.bool ba,sa,ta],.agg #[.bool n_b,.slice n_a n_n n_c,.slice n_d n_m n_e]] (by kernel_rfl) Hok.out (by kernel_rfl) (by kernel_rfl) (by kernel_rfl) (by kernel_rfl) rfl rfl rfl (by kernel_rfl) (fun w4 hb=> ?_);have Hn:=lH (CR.keep Hn.out (kC hb));have HG:=lH (bC HG.out hb);clear hb
 (first|(have hcall:=zadd_ar (AR.keep Ha.out (kC HG.out)) Hn.out.ar (by omega) (by omega);refine cM hcall ?_;clear hcall)|refine cM (zadd_ar (AR.keep Ha.out (kC HG.out)) Hn.out.ar (by omega) (by omega)) ?_)
 rintro e w5 ⟨v5,rfl,hz,hb⟩;obtain⟨z_b,z_a,z_n,z_c,z_d,z_m,z_e,rfl⟩:=hz.litb;refine⟨_,rfl,?_,hb⟩;have HG:=lH (bC HG.out hb);have Hz:=lH hz;clear hb hz;simp only[Act.put,sI,sZ,sS];refine good_end0 1 (by kernel_rfl) (fun _ w6 hb=> ?_);have Hz:=lH (CR.keep Hz.out (kC hb));have HG:=lH (bC HG.out hb);clear hb;have Xa0:=lH (xP HG.out Xa0.out);have Xb0:=lH (xP HG.out Xb0.out);have Xc0:=lH (xP HG.out Xc0.out);have HB:=lH (bC HB.out HG.out);have HS:=lH (SE.of (E:=[w.heap.size+1+1]) HG.out);refine held_oneX 4 (Go.Op.store 34 (Go.Operand.tmp 4) (Go.Operand.tmp 8)) (none) (World.setCell (World.setCell (World.setCell w6 ⟨w.heap.size+1+1,0,none⟩ (.bool z_b)) ⟨w.heap.size+1+1,1,none⟩ (.slice z_a z_n z_c)) ⟨w.heap.size+1+1,2,none⟩ (.slice z_d z_m z_e)) (by kernel_rfl) (by kernel_rfl) (by kernel_rfl) (by kernel_rfl) ?_ (HS.out.store3 in1) ?_
 ·obtain⟨cc00,cc01,cc02,fc00,fc01,fc02⟩:=Xc0.out.c3
  first|(go_simp;done)|(go_simp;simp_all;done)|(go_simp;rfl)
 obtain⟨W7,hW⟩:∃W7,W7=(World.setCell (World.setCell (World.setCell w6 ⟨w.heap.size+1+1,0,none⟩ (.bool z_b)) ⟨w.heap.size+1+1,1,none⟩ (.slice z_a z_n z_c)) ⟨w.heap.size+1+1,2,none⟩ (.slice z_d z_m z_e)):=⟨_,rfl⟩;rw[←hW];obtain⟨xc0,hk,hf,hbb,hz⟩:=stored3s hW Xc0.out (by first|exact nB_ _|exact nS_ _ _ _) (by first|exact nB_ _|exact nS_ _ _ _) (by first|exact nB_ _|exact nS_ _ _ _);have Hz:=lH (CR.keep Hz.out hk);have Xa0:=lH (hf _ _ _ Xa0.out (by omega));have Xb0:=lH (hf _ _ _ Xb0.out (by omega));have Xc0:=lH xc0;have HB:=lH (hbb _ HB.out Gc0.out);have HS:=lH (show SE (W1.drew) [w.heap.size+1+1] W7 from by rw[hW];exact HS.out.store3 in1);clear hW hk hf hbb xc0;clear hz;refine wpAnyH_done (by kernel_rfl) ?_ _;clear HG HS Hok;obtain⟨ca00,ca01,ca02,fa00,fa01,fa02⟩:=Xa0.out.c3;have la0:=Xa0.out.lt;obtain⟨cb00,cb01,cb02,fb00,fb01,fb02⟩:=Xb0.out.c3;have lb0:=Xb0.out.lt;obtain⟨cc00,cc01,cc02,fc00,fc01,fc02⟩:=Xc0.out.c3;have lc0:=Xc0.out.lt;go_wp2;clear ca00 ca01 ca02 fa00 fa01 fa02 la0 cb00 cb01 cb02 fb00 fb01 fb02 lb0 cc00 cc01 cc02 fc00 fc01 fc02 lc0;exact ret_rat1 rfl rfl rfl Xc0.out (CR.cast (Rat.sub_eq_add_neg _ _).symm Hz.out) HB.out
theorem zsub_ar {a b:Rat}{L M:Nat}{u v:Value}{w:World}(h:AR a L w u)(h':AR b M w v)(hL:L≤100000000)(hM:M≤100000000):Calls Tryz.prog 39 #[u,v] w (Ret w (CR (a-b) (L+max M 1+3))):=by
 obtain⟨ba,sa,ta,rfl⟩:=h.agg;obtain⟨bb,sb,tb,rfl⟩:=h'.agg;exact zsub_p h h' hL hM
theorem zmul_p {L M:Nat}{ba:Bool}{na da:Nat}{sa ta:Value}{bb:Bool}{nb db:Nat}{sb tb:Value}{w:World}(hna:Is na L w sa)(hda:Is da L w ta)(hnb:Is nb M w sb)(hdb:Is db M w tb)(hL:L≤100000000)(hM:M≤100000000):
  Calls Tryz.prog 35 #[.agg #[.bool ba,sa,ta],.agg #[.bool bb,sb,tb]] w (Ret w (CR (rv ba na da*rv bb nb db) (L+M+2))):=by
 have Hna:=lH hna;have Hda:=lH hda;have Hnb:=lH hnb;have Hdb:=lH hdb;clear hna hda hnb hdb
 go_enter Tryz.func35,Tryz.ntmps35
 have HB:=lH (bR_ w.heap.size w)
 go_wp2_with fail
 obtain⟨W1,hW⟩:∃W1,W1=(World.alloc (World.alloc (World.alloc w (.cells #[.bool ba,sa,ta] 34)) (.cells #[.bool bb,sb,tb] 34)) (.cells #[.bool false,.slice none 0 0,.slice none 0 0] 34)):=⟨_,rfl⟩;rw[←hW];obtain⟨xa0,xb0,xc0,hk,hb⟩:=boxes_3 _ _ _ _ _ _ _ hW;clear hW;have Hna:=lH (iK Hna.out hk);have Hda:=lH (iK Hda.out hk);have Hnb:=lH (iK Hnb.out hk);have Hdb:=lH (iK Hdb.out hk);have Ga0:=lH (show w.heap.size≤w.heap.size from tL_ HB.out.size (by omega));have Gb0:=lH (show w.heap.size≤w.heap.size+1 from tL_ HB.out.size (by omega));have Gc0:=lH (show w.heap.size≤w.heap.size+1+1 from tL_ HB.out.size (by omega));have Xa0:=lH xa0;have Xb0:=lH xb0;have Xc0:=lH xc0;have HB:=lH (bC HB.out hb);clear hk hb xa0 xb0 xc0;have Hna:=lH (iK Hna.out (Keep.drew W1));have Hda:=lH (iK Hda.out (Keep.drew W1));have Hnb:=lH (iK Hnb.out (Keep.drew W1));have Hdb:=lH (iK Hdb.out (Keep.drew W1));have Xa0:=lH (Box.drew Xa0.out);have Xb0:=lH (Box.drew Xb0.out);have Xc0:=lH (Box.drew Xc0.out);have HB:=lH (Below.drew HB.out);refine wp_region_float [w.heap.size+1+1] [] (by kernel_rfl) (by kernel_rfl) 23 (by kernel_rfl) Flok.nil ?_;intro ok;have Hok:=lH ok;clear ok;have HG:=lH (bR_ (W1.drew).heap.size (W1.drew));refine good_pureX 0 (some 5) (Go.Op.fieldAddr 34 (Go.Operand.tmp 2) 0) (none) (.pointer (some ⟨w.heap.size,0,none⟩)) (by kernel_rfl) (by kernel_rfl) (by kernel_rfl) (fun _ _ _ h=>h) (fun w' hw'=> ?_) ?_
 ·first|(go_simp;done)|(go_simp;simp_all;done)|(go_simp;rfl)
 simp only[Act.put,sI,sZ,sS];refine good_pureX 1 (some 6) (Go.Op.load 4 (Go.Operand.tmp 5)) (none) (.bool ba) (by kernel_rfl) (by kernel_rfl) (by kernel_rfl) (fun _ _ _ h=>h) (fun w' hw'=> ?_) ?_
 ·obtain⟨ca00,ca01,ca02,fa00,fa01,fa02⟩:=(Box.se hw' Xa0.out (notin1 (by omega))).c3
  first|(go_simp;done)|(go_simp;simp_all;done)|(go_simp;rfl)
 simp only[Act.put,sI,sZ,sS];refine good_pureX 2 (some 7) (Go.Op.fieldAddr 34 (Go.Operand.tmp 3) 0) (none) (.pointer (some ⟨w.heap.size+1,0,none⟩)) (by kernel_rfl) (by kernel_rfl) (by kernel_rfl) (fun _ _ _ h=>h) (fun w' hw'=> ?_) ?_
 ·first|(go_simp;done)|(go_simp;simp_all;done)|(go_simp;rfl)
 simp only[Act.put,sI,sZ,sS];refine good_pureX 3 (some 8) (Go.Op.load 4 (Go.Operand.tmp 7)) (none) (.bool bb) (by kernel_rfl) (by kernel_rfl) (by kernel_rfl) (fun _ _ _ h=>h) (fun w' hw'=> ?_) ?_
 ·obtain⟨cb00,cb01,cb02,fb00,fb01,fb02⟩:=(Box.se hw' Xb0.out (notin1 (by omega))).c3
  first|(go_simp;done)|(go_simp;simp_all;done)|(go_simp;rfl)
 simp only[Act.put,sI,sZ,sS];refine good_pureX 4 (some 9) (Go.Op.binOp Go.BinOp.neq 4 (Go.Operand.tmp 6) (Go.Operand.tmp 8) 4) (none) (.bool (!ba==bb)) (by kernel_rfl) (by kernel_rfl) (by kernel_rfl) (fun _ _ _ h=>h) (fun w' hw'=> ?_) ?_
 ·first|(go_simp;done)|(go_simp;simp_all;done)|(go_simp;rfl)
 simp only[Act.put,sI,sZ,sS];refine good_pureX 5 (some 10) (Go.Op.fieldAddr 34 (Go.Operand.tmp 2) 1) (none) (.pointer (some ⟨w.heap.size,1,none⟩)) (by kernel_rfl) (by kernel_rfl) (by kernel_rfl) (fun _ _ _ h=>h) (fun w' hw'=> ?_) ?_
 ·first|(go_simp;done)|(go_simp;simp_all;done)|(go_simp;rfl)
 simp only[Act.put,sI,sZ,sS];refine good_pureX 6 (some 11) (Go.Op.load 32 (Go.Operand.tmp 10)) (none) (sa) (by kernel_rfl) (by kernel_rfl) (by kernel_rfl) (fun _ _ _ h=>h) (fun w' hw'=> ?_) ?_
 ·obtain⟨ca00,ca01,ca02,fa00,fa01,fa02⟩:=(Box.se hw' Xa0.out (notin1 (by omega))).c3
  first|(go_simp;done)|(go_simp;simp_all;done)|(go_simp;rfl)
 simp only[Act.put,sI,sZ,sS];refine good_pureX 7 (some 12) (Go.Op.fieldAddr 34 (Go.Operand.tmp 3) 1) (none) (.pointer (some ⟨w.heap.size+1,1,none⟩)) (by kernel_rfl) (by kernel_rfl) (by kernel_rfl) (fun _ _ _ h=>h) (fun w' hw'=> ?_) ?_
 ·first|(go_simp;done)|(go_simp;simp_all;done)|(go_simp;rfl)
 simp only[Act.put,sI,sZ,sS];refine good_pureX 8 (some 13) (Go.Op.load 32 (Go.Operand.tmp 12)) (none) (sb) (by kernel_rfl) (by kernel_rfl) (by kernel_rfl) (fun _ _ _ h=>h) (fun w' hw'=> ?_) ?_
 ·obtain⟨cb00,cb01,cb02,fb00,fb01,fb02⟩:=(Box.se hw' Xb0.out (notin1 (by omega))).c3
  first|(go_simp;done)|(go_simp;simp_all;done)|(go_simp;rfl)
 simp only[Act.put,sI,sZ,sS];refine good_pureX 10 (some 15) (Go.Op.fieldAddr 34 (Go.Operand.tmp 2) 2) (none) (.pointer (some ⟨w.heap.size,2,none⟩)) (by kernel_rfl) (by kernel_rfl) (by kernel_rfl) (fun _ _ _ h=>h) (fun w' hw'=> ?_) ?_
 ·first|(go_simp;done)|(go_simp;simp_all;done)|(go_simp;rfl)
 simp only[Act.put,sI,sZ,sS];refine good_pureX 11 (some 16) (Go.Op.load 32 (Go.Operand.tmp 15)) (none) (ta) (by kernel_rfl) (by kernel_rfl) (by kernel_rfl) (fun _ _ _ h=>h) (fun w' hw'=> ?_) ?_
 ·obtain⟨ca00,ca01,ca02,fa00,fa01,fa02⟩:=(Box.se hw' Xa0.out (notin1 (by omega))).c3
  first|(go_simp;done)|(go_simp;simp_all;done)|(go_simp;rfl)
 simp only[Act.put,sI,sZ,sS];refine good_pureX 13 (some 18) (Go.Op.fieldAddr 34 (Go.Operand.tmp 3) 2) (none) (.pointer (some ⟨w.heap.size+1,2,none⟩)) (by kernel_rfl) (by kernel_rfl) (by kernel_rfl) (fun _ _ _ h=>h) (fun w' hw'=> ?_) ?_
 ·first|(go_simp;done)|(go_simp;simp_all;done)|(go_simp;rfl)
 simp only[Act.put,sI,sZ,sS];refine good_pureX 14 (some 19) (Go.Op.load 32 (Go.Operand.tmp 18)) (none) (tb) (by kernel_rfl) (by kernel_rfl) (by kernel_rfl) (fun _ _ _ h=>h) (fun w' hw'=> ?_) ?_
 ·obtain⟨cb00,cb01,cb02,fb00,fb01,fb02⟩:=(Box.se hw' Xb0.out (notin1 (by omega))).c3
  first|(go_simp;done)|(go_simp;simp_all;done)|(go_simp;rfl)
 simp only[Act.put,sI,sZ,sS];refine good_callX 9 72 (some 14) #[Go.Operand.tmp 11,Go.Operand.tmp 13] #[32,32] (none) #[sa,sb] (by kernel_rfl) Hok.out (by kernel_rfl) (by kernel_rfl) (by kernel_rfl) (by kernel_rfl) rfl rfl rfl (by kernel_rfl) (fun w2 hb=> ?_);have HG:=lH (bC HG.out hb);clear hb
 (first|(have hcall:=rmul_is (iK Hna.out (kC HG.out)) (iK Hnb.out (kC HG.out)) (by omega) (by omega);refine cM hcall ?_;clear hcall)|refine cM (rmul_is (iK Hna.out (kC HG.out)) (iK Hnb.out (kC HG.out)) (by omega) (by omega)) ?_)
 rintro e w3 ⟨v3,rfl,hx,hb⟩;obtain⟨x_a,x_n,x_c,rfl⟩:=hx.is.lit;refine⟨_,rfl,?_,hb⟩;have HG:=lH (bC HG.out hb);have Hx:=lH hx;clear hb hx;simp only[Act.put,sI,sZ,sS];refine good_callX 12 73 (some 17) #[Go.Operand.tmp 16] #[32] (none) #[ta] (by kernel_rfl) Hok.out (by kernel_rfl) (by kernel_rfl) (by kernel_rfl) (by kernel_rfl) rfl rfl rfl (by kernel_rfl) (fun w4 hb=> ?_);have Hx:=lH (Can.keep Hx.out (kC hb));have HG:=lH (bC HG.out hb);clear hb
 (first|(have hcall:=r3one_is (iK Hda.out (kC HG.out));refine cM hcall ?_;clear hcall)|refine cM (r3one_is (iK Hda.out (kC HG.out))) ?_)
 rintro e w5 ⟨v5,rfl,hp,hb⟩;obtain⟨p_a,p_n,p_c,rfl⟩:=hp.lit;refine⟨_,rfl,?_,hb⟩;have Hx:=lH (Can.keep Hx.out (kC hb));have HG:=lH (bC HG.out hb);have Hp:=lH hp;clear hb hp;simp only[Act.put,sI,sZ,sS];refine good_callX 15 73 (some 20) #[Go.Operand.tmp 19] #[32] (none) #[tb] (by kernel_rfl) Hok.out (by kernel_rfl) (by kernel_rfl) (by kernel_rfl) (by kernel_rfl) rfl rfl rfl (by kernel_rfl) (fun w6 hb=> ?_);have Hx:=lH (Can.keep Hx.out (kC hb));have Hp:=lH (iK Hp.out (kC hb));have HG:=lH (bC HG.out hb);clear hb
 (first|(have hcall:=r3one_is (iK Hdb.out (kC HG.out));refine cM hcall ?_;clear hcall)|refine cM (r3one_is (iK Hdb.out (kC HG.out))) ?_)
 rintro e w7 ⟨v7,rfl,hq,hb⟩;obtain⟨q_a,q_n,q_c,rfl⟩:=hq.lit;refine⟨_,rfl,?_,hb⟩;have Hx:=lH (Can.keep Hx.out (kC hb));have Hp:=lH (iK Hp.out (kC hb));have HG:=lH (bC HG.out hb);have Hq:=lH hq;clear hb hq;simp only[Act.put,sI,sZ,sS];refine good_callX 16 72 (some 21) #[Go.Operand.tmp 17,Go.Operand.tmp 20] #[32,32] (none) #[.slice p_a p_n p_c,.slice q_a q_n q_c] (by kernel_rfl) Hok.out (by kernel_rfl) (by kernel_rfl) (by kernel_rfl) (by kernel_rfl) rfl rfl rfl (by kernel_rfl) (fun w8 hb=> ?_);have Hx:=lH (Can.keep Hx.out (kC hb));have Hp:=lH (iK Hp.out (kC hb));have Hq:=lH (iK Hq.out (kC hb));have HG:=lH (bC HG.out hb);clear hb
 (first|(have hcall:=rmul_is Hp.out Hq.out (by omega) (by omega);refine cM hcall ?_;clear hcall)|refine cM (rmul_is Hp.out Hq.out (by omega) (by omega)) ?_)
 rintro e w9 ⟨v9,rfl,hv,hb⟩;obtain⟨v_a,v_n,v_c,rfl⟩:=hv.is.lit;refine⟨_,rfl,?_,hb⟩;have Hx:=lH (Can.keep Hx.out (kC hb));have HG:=lH (bC HG.out hb);have Hv:=lH hv;clear hb hv;simp only[Act.put,sI,sZ,sS];refine good_callX 17 71 (some 22) #[Go.Operand.tmp 9,Go.Operand.tmp 14,Go.Operand.tmp 21] #[4,32,32] (none) #[.bool (!ba==bb),.slice x_a x_n x_c,.slice v_a v_n v_c] (by kernel_rfl) Hok.out (by kernel_rfl) (by kernel_rfl) (by kernel_rfl) (by kernel_rfl) rfl rfl rfl (by kernel_rfl) (fun w10 hb=> ?_);have Hx:=lH (Can.keep Hx.out (kC hb));have Hv:=lH (Can.keep Hv.out (kC hb));have HG:=lH (bC HG.out hb);clear hb;refine cM (r3quot_is (neg:=(!ba==bb)) (Nat.mul_pos (un_pos _) (un_pos _)) Hx.out.is Hv.out.is (by omega) (by omega)) ?_;rintro e w11 ⟨v11,rfl,hz,hb⟩;obtain⟨z_b,z_a,z_n,z_c,z_d,z_m,z_e,rfl⟩:=hz.litb;refine⟨_,rfl,?_,hb⟩;have HG:=lH (bC HG.out hb);have Hz:=lH hz;clear hb hz;simp only[Act.put,sI,sZ,sS];refine good_end0 1 (by kernel_rfl) (fun _ w12 hb=> ?_);have Hz:=lH (CR.keep Hz.out (kC hb));have HG:=lH (bC HG.out hb);clear hb;have Xa0:=lH (xP HG.out Xa0.out);have Xb0:=lH (xP HG.out Xb0.out);have Xc0:=lH (xP HG.out Xc0.out);have HB:=lH (bC HB.out HG.out);have HS:=lH (SE.of (E:=[w.heap.size+1+1]) HG.out);refine held_oneX 18 (Go.Op.store 34 (Go.Operand.tmp 4) (Go.Operand.tmp 22)) (none) (World.setCell (World.setCell (World.setCell w12 ⟨w.heap.size+1+1,0,none⟩ (.bool z_b)) ⟨w.heap.size+1+1,1,none⟩ (.slice z_a z_n z_c)) ⟨w.heap.size+1+1,2,none⟩ (.slice z_d z_m z_e)) (by kernel_rfl) (by kernel_rfl) (by kernel_rfl) (by kernel_rfl) ?_ (HS.out.store3 in1) ?_
 ·obtain⟨cc00,cc01,cc02,fc00,fc01,fc02⟩:=Xc0.out.c3
  first|(go_simp;done)|(go_simp;simp_all;done)|(go_simp;rfl)
 obtain⟨W13,hW⟩:∃W13,W13=(World.setCell (World.setCell (World.setCell w12 ⟨w.heap.size+1+1,0,none⟩ (.bool z_b)) ⟨w.heap.size+1+1,1,none⟩ (.slice z_a z_n z_c)) ⟨w.heap.size+1+1,2,none⟩ (.slice z_d z_m z_e)):=⟨_,rfl⟩;rw[←hW];obtain⟨xc0,hk,hf,hbb,hz⟩:=stored3s hW Xc0.out (by first|exact nB_ _|exact nS_ _ _ _) (by first|exact nB_ _|exact nS_ _ _ _) (by first|exact nB_ _|exact nS_ _ _ _);have Hz:=lH (CR.keep Hz.out hk);have Xa0:=lH (hf _ _ _ Xa0.out (by omega));have Xb0:=lH (hf _ _ _ Xb0.out (by omega));have Xc0:=lH xc0;have HB:=lH (hbb _ HB.out Gc0.out);have HS:=lH (show SE (W1.drew) [w.heap.size+1+1] W13 from by rw[hW];exact HS.out.store3 in1);clear hW hk hf hbb xc0;clear hz;refine wpAnyH_done (by kernel_rfl) ?_ _;clear HG HS Hok;obtain⟨ca00,ca01,ca02,fa00,fa01,fa02⟩:=Xa0.out.c3;have la0:=Xa0.out.lt;obtain⟨cb00,cb01,cb02,fb00,fb01,fb02⟩:=Xb0.out.c3;have lb0:=Xb0.out.lt;obtain⟨cc00,cc01,cc02,fc00,fc01,fc02⟩:=Xc0.out.c3;have lc0:=Xc0.out.lt;go_wp2;clear ca00 ca01 ca02 fa00 fa01 fa02 la0 cb00 cb01 cb02 fb00 fb01 fb02 lb0 cc00 cc01 cc02 fc00 fc01 fc02 lc0;exact ret_rat1 rfl rfl rfl Xc0.out (CR.mono (CR.cast (mul_parts _ _ _ _ _ _) Hz.out) (by omega)) HB.out
theorem zmul_ar {a b:Rat}{L M:Nat}{u v:Value}{w:World}(h:AR a L w u)(h':AR b M w v)(hL:L≤100000000)(hM:M≤100000000):Calls Tryz.prog 35 #[u,v] w (Ret w (CR (a*b) (L+M+2))):=by
 obtain⟨ba,sa,ta,na,da,rfl,h1,h2,rfl⟩:=h;obtain⟨bb,sb,tb,nb,db,rfl,h3,h4,rfl⟩:=h';exact zmul_p h1 h2 h3 h4 hL hM
theorem zcmp_p {L M:Nat}{qa:Rat}{ba:Bool}{sa ta:Value}{qb:Rat}{bb:Bool}{sb tb:Value}{w:World}(k:Int)(hk:cmpQ qa qb=k)(ha:AR qa L w (.agg #[.bool ba,sa,ta]))(hb:AR qb M w (.agg #[.bool bb,sb,tb]))(hL:L≤100000000)(hM:M≤100000000):
  Calls Tryz.prog 12 #[.agg #[.bool ba,sa,ta],.agg #[.bool bb,sb,tb]] w (Ret w (Val (.int .i64 k))):=by
 have Ha:=lH ha;have Hb:=lH hb;have Hk:=lH hk;clear ha hb hk
 go_enter Tryz.func12,Tryz.ntmps12
 have HB:=lH (bR_ w.heap.size w)
 go_wp2_with fail
 obtain⟨W1,hW⟩:∃W1,W1=(World.alloc (World.alloc w (.cells #[.bool ba,sa,ta] 34)) (.cells #[.bool bb,sb,tb] 34)):=⟨_,rfl⟩;rw[←hW];obtain⟨xa0,xb0,hk,hb⟩:=boxes_2 _ _ _ _ _ hW;clear hW;have Ha:=lH (AR.keep Ha.out hk);have Hb:=lH (AR.keep Hb.out hk);have Ga0:=lH (show w.heap.size≤w.heap.size from tL_ HB.out.size (by omega));have Gb0:=lH (show w.heap.size≤w.heap.size+1 from tL_ HB.out.size (by omega));have Xa0:=lH xa0;have Xb0:=lH xb0;have HB:=lH (bC HB.out hb);clear hk hb xa0 xb0
 (first|(have hcall:=zsub_ar Ha.out Hb.out (by omega) (by omega);refine cM hcall ?_;clear hcall)|refine cM (zsub_ar Ha.out Hb.out (by omega) (by omega)) ?_)
 rintro e w2 ⟨v2,rfl,hd,hb⟩;obtain⟨d_b,d_a,d_n,d_c,d_d,d_m,d_e,rfl⟩:=hd.litb;have Xa0:=lH (xP hb Xa0.out);have Xb0:=lH (xP hb Xb0.out);have HB:=lH (bC HB.out hb);have Hd:=lH hd;clear hb hd;obtain⟨ca00,ca01,ca02,fa00,fa01,fa02⟩:=Xa0.out.c3;have la0:=Xa0.out.lt;obtain⟨cb00,cb01,cb02,fb00,fb01,fb02⟩:=Xb0.out.c3;have lb0:=Xb0.out.lt
 go_wp2_with fail
 clear ca00 ca01 ca02 fa00 fa01 fa02 la0 cb00 cb01 cb02 fb00 fb01 fb02 lb0
 (first|(have hcall:=zsign_ar k Hd.out.ar Hk.out;refine cM hcall ?_;clear hcall)|refine cM (zsign_ar k Hd.out.ar Hk.out) ?_)
 rintro e w3 ⟨v3,rfl,rfl,hb⟩;have Xa0:=lH (xP hb Xa0.out);have Xb0:=lH (xP hb Xb0.out);have HB:=lH (bC HB.out hb);clear hb;obtain⟨ca00,ca01,ca02,fa00,fa01,fa02⟩:=Xa0.out.c3;have la0:=Xa0.out.lt;obtain⟨cb00,cb01,cb02,fb00,fb01,fb02⟩:=Xb0.out.c3;have lb0:=Xb0.out.lt;go_wp2;clear ca00 ca01 ca02 fa00 fa01 fa02 la0 cb00 cb01 cb02 fb00 fb01 fb02 lb0
 go_ret
 exact⟨_,rfl,rfl,HB.out⟩
theorem zcmp_ar {a b:Rat}{L M:Nat}{u v:Value}{w:World}(k:Int)(h:AR a L w u)(h':AR b M w v)(hk:cmpQ a b=k)(hL:L≤100000000)(hM:M≤100000000):
  Calls Tryz.prog 12 #[u,v] w (Ret w (Val (.int .i64 k))):=by
 obtain⟨ba,sa,ta,rfl⟩:=h.agg;obtain⟨bb,sb,tb,rfl⟩:=h'.agg;exact zcmp_p k hk h h' hL hM
theorem add_int (t:Rat)(f:Int):(t+(f:Rat)).num=t.num+f*t.den∧(t+(f:Rat)).den=t.den:=by
 have hc:(t.num+f*t.den).natAbs.Coprime t.den:=by
  have h1:t.num.gcd (t.den:Int)=1:=t.reduced;have h2:(t.num+f*t.den).gcd (t.den:Int)=1:=by rw[Int.gcd_add_mul_right_left];exact h1
  exact h2
 have h:t+(f:Rat)=⟨t.num+f*t.den,t.den,t.den_nz,hc⟩:=by
  rw[Rat.mk_eq_mkRat];have h1:(f:Rat)=mkRat f 1:=by rw[mkRat_one]
  rw[h1];conv=>lhs;rw[←Rat.mkRat_self t]
  rw[Rat.mkRat_add_mkRat _ _ t.den_nz (by decide)];simp
 rw[h];exact⟨rfl,rfl⟩
theorem num_pos' {t:Rat}(h:0<t):0<t.num:=by
 rw[Rat.lt_iff]at h;simpa using h
theorem one_div_parts {t:Rat}(h:0<t):(1/t).num=t.den∧(1/t).den=t.num.natAbs∧0<1/t:=by
 have hp:=num_pos' h;have e:1/t=t⁻¹:=by rw[Rat.div_def,Rat.one_mul]
 rw[e];refine⟨by rw[Rat.num_inv,Int.sign_eq_one_of_pos hp];omega,by rw[Rat.den_inv,if_neg (by omega)],Rat.inv_pos.2 h⟩
structure Down (lo hi:Rat):Prop where
 f0:0≤lo.floor
 a:0<hi-(lo.floor:Rat)
 b:0<lo-(lo.floor:Rat)
 le:lo-(lo.floor:Rat)≤hi-(lo.floor:Rat)
 a1:(hi-(lo.floor:Rat)).num<hi.den
 b1:(lo-(lo.floor:Rat)).num<lo.den
 ad:(hi-(lo.floor:Rat)).den=hi.den
 bd:(lo-(lo.floor:Rat)).den=lo.den
theorem back {y:Rat}(f:Int)(h:0<y):((f:Rat)+1/y).den=y.num.natAbs∧((f:Rat)+1/y).num=y.den+f*y.num:=by
 have h1:=one_div_parts h;have h2:=add_int (1/y) f;have hp:=num_pos' h;rw[Rat.add_comm,h2.1,h2.2,h1.1,h1.2.1];exact⟨rfl,by rw[show((y.num.natAbs:Nat):Int)=y.num by omega]⟩
open Go.ChangeShapes Go.WideShapes
end Go.Proofs.YtcnebhohjghngaaGreatDoor
