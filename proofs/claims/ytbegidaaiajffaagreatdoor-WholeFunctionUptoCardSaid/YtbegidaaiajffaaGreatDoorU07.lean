/- Texts LrJ LrK LrL LrM LrN LrO LrP LrQ LrR LrS LrT LrU LrV LrW LrX LrY LrZ LsA LsB LsC LsD LsE LsF LsG LsH LsI LsJ LsK of this proof, in this order. -/
import Derived.Test.YtbegidaaiajffaaGreatDoorU06
set_option linter.unusedVariables false
set_option linter.unusedSimpArgs false
set_option maxRecDepth 100000
set_option maxHeartbeats 4000000
namespace Go.Proofs.YtbegidaaiajffaaGreatDoor.Lf
open Go.RowKit Nt
abbrev ssR (ss:List (List Nat)):List (List D):=ss.map fun s=>[shD s]
abbrev ssD (ss:List (List Nat)):D:= .sl 1 (ssR ss)
abbrev plA (inp:List Nat)(ss:List (List Nat)):List A:=[.d (shD inp),.d (ssD ss)]
def inS (inp:List Nat)(ss:List (List Nat)):List Nat:=(inp::ss).getD ss.length []
theorem at_ss {ss:List (List Nat)}{i:Nat}{s:List Nat}(h:ss[i]? =some s):(ssR ss)[i]? =some [shD s]:=at_map (f:=fun s=>[shD s]) h
theorem ShOk.g {s:List Nat}(h:ShOk s):ShG s:=⟨h.l1,h.l4,h.pos,by have:=h.sz;omega⟩
theorem lx_pin {inp:List Nat}{ss:List (List Nat)}(hl:ss.length≤1000):LV Tryz.prog 169 [.agg (plA inp ss)] (.a (.d (shD (inS inp ss)))):=by
 refine LX_run (m:=0) (n0:=0) mix Tryz.func169 rfl rfl rfl rfl ?_;conv=>whnf
 refine bs (fun g0=> ?_) (fun g0=> ?_)
 ·conv=>whnf
  have h0:0<ss.length:=by simpa using g0
  obtain⟨s,hs⟩:=at_some (l:=ss) (i:=ss.length-1) (by omega);have e:inS inp ss=s:=by
   unfold inS;obtain⟨n,hn⟩:∃n,ss.length=n+1:=⟨ss.length-1,by omega⟩;rw[hn,List.getD_cons_succ];rw[hn]at hs;exact getD_of hs
  refine .mk (ss.length-1) ([shD s]) (by rw[List.length_map,show((ss.length:Int)-1)=((ss.length-1:Nat):Int) by omega,wrN (by omega)]) (at_ss hs) ?_;conv=>whnf
  conv=>whnf
  rw[←e];exact .q ⟨rfl,rfl⟩
 ·conv=>whnf
  have h0:ss.length=0:=by simpa using g0
  have e:inS inp ss=inp:=by unfold inS;rw[h0];rfl
  exact .q ⟨by rw[e],rfl⟩
theorem lx_pdense {inp:List Nat}{ss:List (List Nat)}{l:Ly}(hl:ss.length≤1000)(hs:ShG (inS inp ss)){n:Nat}(h1:l.out=n)(hn:n≤16384)(h2:l.ws.length=n*szS (inS inp ss)):
  LV Tryz.prog 166 [.agg (plA inp ss),.agg l.A] (.tup [.s (.d (shD [n])),.s (.d (.lit (.bool true)))]):=by
 have h3:n*szS (inS inp ss)≤16384*16384:=Nat.mul_le_mul hn hs.sz;refine LX_run (m:=0) (n0:=0) mix Tryz.func166 rfl rfl rfl rfl ?_;conv=>whnf
 rw[h1];refine .c (lx_pin hl) ?_;conv=>whnf
 refine .c (lx_tsize hs) ?_;conv=>whnf
 refine bT (decide_eq_true (by rw[List.length_map,h2,←Int.natCast_mul,wrN (by omega)])) ?_;conv=>whnf
 refine .mk (by kernel_rfl) ?_;conv=>whnf
 exact .s ⟨rfl,rfl⟩
theorem lx_pwindows {inp:List Nat}{ss:List (List Nat)}{l:Ly}{kh kw st pad:Nat}{z:Int}(hl:ss.length≤1000)(h3:(inS inp ss).length=3)(ok:(winS (inS inp ss) kh kw st pad).Ok)(e1:l.kh=kh)(e2:l.kw=kw)(e3:l.st=st)(e4:l.pad=pad):
  LV Tryz.prog 168 [.agg (plA inp ss),.agg l.A,vl (.int .i64 z)] (.tup [.s (.d (inD [z,(winS (inS inp ss) kh kw st pad).rows,(winS (inS inp ss) kh kw st pad).cols])),.s (.d (.lit (.bool true)))]):=by
 have hc:=lx_windows ok;rw[←shD3 h3]at hc;refine LX_run (m:=0) (n0:=0) mix Tryz.func168 rfl rfl rfl rfl ?_;conv=>whnf
 rw[e1,e2,e3,e4];refine .c (lx_pin hl) ?_;conv=>whnf
 refine .c (hc) ?_;conv=>whnf
 refine .mk (by kernel_rfl) ?_;conv=>whnf
 exact .s ⟨rfl,rfl⟩
theorem lx_pconv {inp:List Nat}{ss:List (List Nat)}{l:Ly}{kh kw st pad n:Nat}(hl:ss.length≤1000)(hs:ShG (inS inp ss))(h3:(inS inp ss).length=3)(ok:(winS (inS inp ss) kh kw st pad).Ok)(e1:l.kh=kh)(e2:l.kw=kw)(e3:l.st=st)(e4:l.pad=pad)(e5:l.out=n)(hn:n≤16384)
  (h2:l.ws.length=n*((inS inp ss).getD 0 0*(kh*kw))):
  LV Tryz.prog 167 [.agg (plA inp ss),.agg l.A] (.tup [.s (.d (shD [n,(winS (inS inp ss) kh kw st pad).rows,(winS (inS inp ss) kh kw st pad).cols])),.s (.d (.lit (.bool true)))]):=by
 obtain⟨d,hd⟩:=at_some (l:=inS inp ss) (i:=0) (by omega);have e6:(inS inp ss).getD 0 0=d:=getD_of hd;have m1:=(hs.d hd).2;have hkh:=ok.kh.2;have hkw:=ok.kw.2;have n1:n*d≤16384*16384:=Nat.mul_le_mul hn m1;have n2:n*d*kh≤16384*16384*6:=Nat.mul_le_mul n1 hkh;have n3:n*d*kh*kw≤16384*16384*6*6:=Nat.mul_le_mul n2 hkw;have hw:=lx_pwindows (l:=l) (z:=l.out) hl h3 ok e1 e2 e3 e4;refine LX_run (m:=0) (n0:=0) mix Tryz.func167 rfl rfl rfl rfl ?_;conv=>whnf
 refine .c (hw) ?_;conv=>whnf
 refine .c (lx_pin hl) ?_;conv=>whnf
 refine .mk (0) ([D.lit (.int .i64 (d:Nat))]) (rfl) (at_nI hd) ?_;conv=>whnf
 conv=>whnf
 have ew:IntKind.i64.wrap (IntKind.i64.wrap (IntKind.i64.wrap (l.out*(d:Int))*l.kh)*l.kw)=((n*d*kh*kw:Nat):Int):=by
  rw[e5,e1,e2,←Int.natCast_mul,wrN (n:=n*d) (by omega),←Int.natCast_mul,wrN (n:=n*d*kh) (by omega),←Int.natCast_mul,wrN (by omega)]
 refine bT (decide_eq_true (by rw[ew,List.length_map,h2,e6];simp only[Nat.mul_assoc])) ?_;conv=>whnf
 refine .mk (by kernel_rfl) ?_;conv=>whnf
 exact .s ⟨by rw[e5];rfl,rfl⟩
theorem lx_seq {s:List Nat}(hl:s.length≤1000):LV Tryz.prog 197 [.a (.d (shD s)),.a (.d (shD s))] (vl (.bool true)):=by
 refine LX_run (m:=0) (n0:=0) mix Tryz.func197 rfl rfl rfl rfl ?_;conv=>whnf
 refine bF (by simp) ?_;conv=>whnf
 refine .mk Nat (fun i=>⟨[(13,vl (.int .i64 (i:Nat))),(12,vl (.int .i64 (inR (nI s)).length)),(11,.a (.d (shD s))),(1,.a (.d (shD s))),(0,.a (.d (shD s)))],[],0⟩) (fun i=>i≤s.length) (fun i=>s.length-i) 0 Wk.go (zL_ _) fun i hi=> ?_;conv=>whnf
 refine bs (fun g0=> ?_) (fun g0=> ?_)
 ·conv=>whnf
  have hi':i<s.length:=by simpa using g0
  obtain⟨d,hd⟩:=at_some hi';refine .mk (i) ([D.lit (.int .i64 (d:Nat))]) (rfl) (at_nI hd) ?_;conv=>whnf
  conv=>whnf
  refine .mk (i) ([D.lit (.int .i64 (d:Nat))]) (rfl) (at_nI hd) ?_;conv=>whnf
  conv=>whnf
  refine bF (by simp) ?_;conv=>whnf
  refine .mk (by kernel_rfl) ?_;conv=>whnf
  exact⟨i+1,Wk.go,hi',by omega⟩
 ·conv=>whnf
  exact .q ⟨rfl,rfl⟩
theorem lx_sclone {s:List Nat}(h0:1≤s.length)(hl:s.length≤1000):LV Tryz.prog 113 [.a (.d (shD s))] (.a (.d (shD s))):=by
 obtain⟨d,t,rfl⟩:∃d t,s=d::t:=by cases s with|nil=>simp at h0|cons d t=>exact⟨d,t,rfl⟩
 refine LX_run (m:=0) (n0:=0) mix Tryz.func113 rfl rfl rfl rfl ?_;conv=>whnf
 refine .own ?_;conv=>whnf
 refine .mk (inR (nI (d::t))) rfl rfl (by simp at hl ⊢;omega) ?_;conv=>whnf
 exact .s ⟨rfl,rfl⟩
theorem lx_padd {inp:List Nat}{ss:List (List Nat)}{l:Ly}(hl:ss.length≤1000)(hs:ShG (inS inp ss))(h1: -1≤l.fr)(h2:l.fr<ss.length)(h3:(inp::ss).getD (l.fr+1).toNat []=inS inp ss):
  LV Tryz.prog 170 [.agg (plA inp ss),.agg l.A] (.tup [.s (.d (shD (inS inp ss))),.s (.d (.lit (.bool true)))]):=by
 refine LX_run (m:=0) (n0:=0) mix Tryz.func170 rfl rfl rfl rfl ?_;conv=>whnf
 refine bs (fun g0=> ?_) (fun g0=> ?_)
 ·conv=>whnf
  have h0:0≤l.fr:=by simpa using g0
  obtain⟨s,hs'⟩:=at_some (l:=ss) (i:=l.fr.toNat) (by omega);have e:s=inS inp ss:=by
   rw[←h3,show(l.fr+1).toNat=l.fr.toNat+1 by omega,List.getD_cons_succ];exact(getD_of hs').symm
  refine .mk (l.fr.toNat) ([shD s]) (by rw[Int.toNat_of_nonneg h0]) (at_ss hs') ?_;conv=>whnf
  conv=>whnf
  rw[e];refine .c (lx_pin hl) ?_;conv=>whnf
  refine .c (lx_pin hl) ?_;conv=>whnf
  refine .c (lx_seq (by have:=hs.l4;omega)) ?_;conv=>whnf
  refine .mk (by kernel_rfl) ?_;conv=>whnf
  exact .q ⟨rfl,rfl⟩
 ·conv=>whnf
  have h0:¬0≤l.fr:=by simpa using g0
  have e:inS inp ss=inp:=by
   rw[←h3,show(l.fr+1).toNat=0 by omega];rfl
  refine .c (lx_pin hl) ?_;conv=>whnf
  refine .c (lx_pin hl) ?_;conv=>whnf
  rw[e];refine .c (lx_seq (by rw[←e];have:=hs.l4;omega)) ?_;conv=>whnf
  refine .mk (by kernel_rfl) ?_;conv=>whnf
  exact .q ⟨rfl,rfl⟩
theorem lx_pout {inp:List Nat}{ss:List (List Nat)}{lay:Lay}(hl:ss.length≤1000)(hs:ShOk (inS inp ss))(ho:ShOk (outS lay (inS inp ss)))(hf:Fit lay ss.length (inp::ss) (inS inp ss)):
  LV Tryz.prog 112 [.agg (plA inp ss),.agg (Lay.ly lay).A] (.tup [.s (.d (shD (outS lay (inS inp ss)))),.s (.d (.lit (.bool true)))]):=by
 have hsg:=hs.g
 cases lay with
 |dense ws bs=>
  have c:=lx_pdense (l:=Lay.ly (.dense ws bs)) hl hsg (n:=bs.length) rfl (by have:=ho.sz;simp[outS,szS]at this;omega) hf.2;refine LX_run (m:=0) (n0:=0) mix Tryz.func112 rfl rfl rfl rfl ?_;conv=>whnf
  refine .c (c) ?_;conv=>whnf
  exact .q ⟨rfl,rfl⟩
 |conv kh kw st pad ws bs=>
  have c:=lx_pconv (l:=Lay.ly (.conv kh kw st pad ws bs)) hl hsg hf.2.1 hf.1 (n:=bs.length) rfl rfl rfl rfl rfl (by have:=ho.g.d (i:=0) (d:=bs.length) rfl;omega) hf.2.2.2;refine LX_run (m:=0) (n0:=0) mix Tryz.func112 rfl rfl rfl rfl ?_;conv=>whnf
  refine .c (c) ?_;conv=>whnf
  exact .q ⟨rfl,rfl⟩
 |mx kh kw st=>
  obtain⟨d,hd⟩:=at_some (l:=inS inp ss) (i:=0) (by have:=hf.2;omega);have e:(inS inp ss).getD 0 0=d:=getD_of hd;have c:=lx_pwindows (l:=Lay.ly (.mx kh kw st)) (z:=(d:Nat)) hl hf.2 hf.1 rfl rfl rfl rfl;refine LX_run (m:=0) (n0:=0) mix Tryz.func112 rfl rfl rfl rfl ?_;conv=>whnf
  refine .c (lx_pin hl) ?_;conv=>whnf
  refine .mk (0) ([D.lit (.int .i64 (d:Nat))]) (rfl) (at_nI hd) ?_;conv=>whnf
  conv=>whnf
  refine .c (c) ?_;conv=>whnf
  refine .mk (by kernel_rfl) ?_;conv=>whnf
  exact .q ⟨by rw[show outS (.mx kh kw st) (inS inp ss)=[d,(winS (inS inp ss) kh kw st 0).rows,(winS (inS inp ss) kh kw st 0).cols] by rw[outS,e]];rfl,rfl⟩
 |av kh kw st=>
  obtain⟨d,hd⟩:=at_some (l:=inS inp ss) (i:=0) (by have:=hf.2;omega);have e:(inS inp ss).getD 0 0=d:=getD_of hd;have c:=lx_pwindows (l:=Lay.ly (.av kh kw st)) (z:=(d:Nat)) hl hf.2 hf.1 rfl rfl rfl rfl;refine LX_run (m:=0) (n0:=0) mix Tryz.func112 rfl rfl rfl rfl ?_;conv=>whnf
  refine .c (lx_pin hl) ?_;conv=>whnf
  refine .mk (0) ([D.lit (.int .i64 (d:Nat))]) (rfl) (at_nI hd) ?_;conv=>whnf
  conv=>whnf
  refine .c (c) ?_;conv=>whnf
  refine .mk (by kernel_rfl) ?_;conv=>whnf
  exact .q ⟨by rw[show outS (.av kh kw st) (inS inp ss)=[d,(winS (inS inp ss) kh kw st 0).rows,(winS (inS inp ss) kh kw st 0).cols] by rw[outS,e]];rfl,rfl⟩
 |relu=>
  refine LX_run (m:=0) (n0:=0) mix Tryz.func112 rfl rfl rfl rfl ?_;conv=>whnf
  refine .c (lx_pin hl) ?_;conv=>whnf
  exact .q ⟨rfl,rfl⟩
 |flat=>
  refine LX_run (m:=0) (n0:=0) mix Tryz.func112 rfl rfl rfl rfl ?_;conv=>whnf
  refine .c (lx_pin hl) ?_;conv=>whnf
  refine .c (lx_tsize hsg) ?_;conv=>whnf
  exact .s ⟨rfl,rfl⟩
 |add fr=>
  have c:=lx_padd (l:=Lay.ly (.add fr)) hl hsg hf.1 hf.2.1 hf.2.2;refine LX_run (m:=0) (n0:=0) mix Tryz.func112 rfl rfl rfl rfl ?_;conv=>whnf
  refine .c (c) ?_;conv=>whnf
  exact .q ⟨rfl,rfl⟩
abbrev rel (n:Nat):List Lay:=List.replicate n .relu
theorem Fit.layV {lay:Lay}{i:Nat}{ss:List (List Nat)}{s:List Nat}(h:Fit lay i ss s)(hp:(parS lay).length≤104)(hs:ShOk s):LayV i lay:=by
 cases lay with
 |dense ws bs=>
  obtain⟨h1,h2⟩:=h;have hl:ws.length+bs.length≤104:=by simpa [parS]using hp
  have h3:1≤bs.length*szS s:=Nat.mul_pos h1 (szS_pos hs.pos);exact⟨⟨h1,by omega⟩,⟨by omega,by omega⟩,by rw[h2];exact Nat.mul_mod_right _ _⟩
 |conv kh kw st pad ws bs=>
  obtain⟨ok,h0,h1,h2⟩:=h;have hl:ws.length+bs.length≤104:=by simpa [parS]using hp
  have hc:1≤s.getD 0 0:=ok.c;have h3:1≤bs.length*(s.getD 0 0*(kh*kw)):=Nat.mul_pos h1 (Nat.mul_pos hc (Nat.mul_pos ok.kh.1 ok.kw.1));have a1:=ok.kh;have a2:=ok.kw;have a3:=ok.st;simp only[winS]at a1 a2 a3;refine⟨⟨h1,by omega⟩,⟨by omega,by omega⟩,?_,⟨a1.1,by omega⟩,⟨a2.1,by omega⟩,⟨a3.1,by omega⟩,ok.ph,ok.pw⟩;rw[h2,show bs.length*(s.getD 0 0*(kh*kw))=bs.length*kh*kw*s.getD 0 0 by rw[Nat.mul_assoc bs.length kh kw,Nat.mul_assoc bs.length,Nat.mul_comm (kh*kw)]];exact Nat.mul_mod_right _ _
 |mx kh kw st=>
  have a1:=h.1.kh;have a2:=h.1.kw;have a3:=h.1.st;simp only[winS]at a1 a2 a3;exact⟨⟨a1.1,by omega⟩,⟨a2.1,by omega⟩,⟨a3.1,by omega⟩⟩
 |av kh kw st=>
  have a1:=h.1.kh;have a2:=h.1.kw;have a3:=h.1.st;simp only[winS]at a1 a2 a3;exact⟨⟨a1.1,by omega⟩,⟨a2.1,by omega⟩,⟨a3.1,by omega⟩⟩
 |relu=>trivial
 |flat=>trivial
 |add fr=>exact⟨h.1,h.2.1⟩
theorem rel_mov {inp:List Nat}{n:Nat}{lay:Lay}(hn:n≤60)(hi:ShG inp)(hv:LayV n lay)(hz:∀q∈parS lay,Sz q):MoV ⟨inp,rel n++[lay]⟩:=by
 refine⟨hi,by simp;omega,fun i l h=> ?_,fun l h q hq=> ?_⟩
 ·simp only at h
  by_cases h1:i<n
  ·rw[List.getElem?_append_left (by simpa using h1),List.getElem?_replicate,if_pos h1]at h;injection h with h;subst h;trivial
  ·rw[List.getElem?_append_right (by simp;omega)]at h;have h2:i-n=0:=by
    rcases eP_ (i-n)with h2|h2
    ·exact h2
    ·rw[List.getElem?_eq_none (by simp;omega)]at h;cases h
   have h3:i=n:=by omega
   rw[List.length_replicate,h2]at h;injection h with h;subst h;rw[h3];exact hv
 ·simp only[List.mem_append,List.mem_singleton]at h;rcases h with h|rfl
  ·rw[List.eq_of_mem_replicate h]at hq;exact absurd hq List.not_mem_nil
  ·exact hz q hq
theorem rel_snoc (n:Nat):lyR (rel (n+1))=lyR (rel n)++[(Lay.ly .relu).D]:=by
 rw[rel,List.replicate_succ',lyR,List.map_append];rfl
theorem rel_lay (n:Nat)(lay:Lay):lyR (rel n++[lay])=lyR (rel n)++[(Lay.ly lay).D]:=by rw[lyR,List.map_append];rfl
theorem lx_sout {inp:List Nat}{ss:List (List Nat)}{lay:Lay}(hl:ss.length≤60)(hi:ShG inp)(hss:∀s∈ss,ShG s)(hv:LayV ss.length lay)(hz:∀q∈parS lay,Sz q)
  (hs:ShOk (inS inp ss)) (ho:ShOk (outS lay (inS inp ss))) (hf:Fit lay ss.length (inp::ss) (inS inp ss)):
  LV Tryz.prog 58 [.a (.d (shD inp)),.a (.d (ssD ss)),.agg (Lay.ly lay).A] (.tup [.s (.d (shD (outS lay (inS inp ss)))),.s (.d (.lit (.int .i64 0)))]):=by
 have hm:=lx_mvalid (rel_mov hl hi hv hz);have hp:=lx_pout (by omega) hs ho hf;have hc:=lx_sclone (s:=outS lay (inS inp ss)) ho.l1 (by have:=ho.l4;omega);refine LX_run (m:=0) (n0:=0) mix Tryz.func58 rfl rfl rfl rfl ?_;conv=>whnf
 refine .mk Nat (fun i=>⟨[(17,vl (.int .i64 (i:Nat))),(16,vl (.int .i64 (ssR ss).length)),(15,.a (.d (ssD ss))),(8,.a (.ptr 1 0)),(5,.a (.ptr 0 0)),(1,.a (.d (ssD ss))),(0,.a (.d (shD inp)))],
  [(0,.box 59 (Lay.ly lay).A),(1,.box 25 [.d (shD inp),.own 2 9 (lyR (rel i))]),(2,.arr 59 9 (lyR (rel i)).length)],3⟩) (fun i=>i≤ss.length) (fun i=>ss.length-i) 0
  (Wk.trans (Wk.ownB 1 2 1 59 9 rfl rfl rfl) Wk.go) (zL_ _) fun i hi=> ?_
 conv=>whnf
 refine bs (fun g0=> ?_) (fun g0=> ?_)
 ·conv=>whnf
  have hi':i<ss.length:=by simpa using g0
  obtain⟨s,hs'⟩:=at_some hi';refine .mk (i) ([shD s]) (rfl) (at_ss hs') ?_;conv=>whnf
  conv=>whnf
  refine .c (lx_tvalid (hss s (mG_ hs'))) ?_;conv=>whnf
  refine .mk (lyR (rel (i+1))) rfl (rel_snoc i) (by simp;omega) ?_;conv=>whnf
  exact⟨i+1,Wk.go,hi',by omega⟩
 ·conv=>whnf
  have e:i=ss.length:=by have:¬i<ss.length:=by simpa using g0
                         omega
  rw[e];refine .mk (lyR (rel ss.length++[lay])) rfl (rel_lay _ _) (by simp;omega) ?_;conv=>whnf
  refine .c (hm) ?_;conv=>whnf
  refine .c (hp) ?_;conv=>whnf
  refine .c (lx_tvalid ho.g) ?_;conv=>whnf
  refine .c (hc) ?_;conv=>whnf
  exact .q ⟨rfl,rfl⟩
abbrev Mo.shT (m:Mo)(i:Nat):List (List Nat):=(List.range i).map fun j=>m.sh (j+1)
theorem shT_cons (m:Mo)(i:Nat):m.inp::m.shT i=m.shs (i+1):=by
 rw[Mo.shs,List.range_succ_eq_map,List.map_cons,List.map_map];rfl
theorem shT_in (m:Mo)(i:Nat):inS m.inp (m.shT i)=m.sh i:=by
 unfold inS;rw[shT_cons,List.length_map,List.length_range,Mo.shs,List.getD_eq_getElem?_getD,List.getElem?_map,List.getElem?_range (by omega)];rfl
theorem shT_snoc (m:Mo)(i:Nat):ssR (m.shT (i+1))=ssR (m.shT i)++[[shD (m.sh (i+1))]]:=by
 rw[Mo.shT,range_map_snoc,ssR,List.map_append];rfl
theorem MoOk.pz {m:Mo}(h:MoOk m){l:Lay}(hl:l∈m.ls):∀q∈parS l,Sz q:=fun q hq=>
 Bt.sz (k:=32) ⟨(h.par l hl q hq).1,(h.par l hl q hq).2⟩ (by decide)
theorem MoOk.lay {m:Mo}(h:MoOk m){i:Nat}{l:Lay}(hl:m.ls[i]? =some l):LayV i l:=by
 have h1:=h.fit i (at_lt hl);have h2:m.lay i=l:=getD_of hl;rw[h2]at h1;exact h1.layV (h.pn l (mG_ hl)) (h.sh i (by have:=at_lt hl;omega))
theorem MoOk.v {m:Mo}(h:MoOk m):MoV m:=⟨(h.sh 0 (zL_ _)).g,by have:=h.n;omega,fun i l hl=>h.lay hl,fun l hl=>h.pz hl⟩
theorem MoOk.ss {m:Mo}(h:MoOk m){i:Nat}(hi:i≤m.ls.length):∀s∈m.shT i,ShG s:=by
 intro s hs;obtain⟨j,hj,rfl⟩:=List.mem_map.1 hs;have:=List.mem_range.1 hj;exact(h.sh (j+1) (by omega)).g
theorem lx_sof {m:Mo}(h:MoOk m):LV Tryz.prog 26 [.agg m.A] (.tup [.s (.d (ssD (m.shT m.ls.length))),.s (.d (.lit (.int .i64 0))),.s (.d (.lit (.int .i64 0)))]):=by
 have hn:=h.n;refine LX_run (m:=0) (n0:=0) mix Tryz.func26 rfl rfl rfl rfl ?_;conv=>whnf
 refine .c (lx_mvalid h.v) ?_;conv=>whnf
 refine .mk Nat (fun i=>⟨[(16,vl (.int .i64 (i:Nat))),(15,vl (.int .i64 (lyR m.ls).length)),(14,.a (.d (lysD m.ls))),(5,.a (.own 1 1 (ssR (m.shT i)))),(1,.a (.ptr 0 0))],
  [(0,.box 25 m.A),(1,.arr 22 1 (ssR (m.shT i)).length)],2⟩) (fun i=>i≤m.ls.length) (fun i=>m.ls.length-i) 0
  (Wk.trans (Wk.own 5 1 22 1 rfl rfl (zL_ _)) Wk.go) (zL_ _) fun i hi=> ?_
 conv=>whnf
 refine bs (fun g0=> ?_) (fun g0=> ?_)
 ·conv=>whnf
  have hi':i<m.ls.length:=by simpa using g0
  obtain⟨x,hx⟩:=at_some hi';have ex:m.lay i=x:=getD_of hx;have ef:=h.fit i hi';rw[ex]at ef;have hin:=shT_in m i;have hln:(m.shT i).length=i:=by simp
  have es:m.sh (i+1)=outS x (m.sh i):=by rw[←ex];rfl
  have c:=lx_sout (inp:=m.inp) (ss:=m.shT i) (lay:=x) (by omega) (h.sh 0 (zL_ _)).g (h.ss (by omega)) (by rw[hln];exact h.lay hx) (h.pz (mG_ hx))
   (by rw[hin];exact h.sh i (by omega)) (by rw[hin,←es];exact h.sh (i+1) (by omega)) (by rw[hin,hln,shT_cons];exact ef)
  rw[hin,←es]at c;refine .mk (i) ((Lay.ly x).D) (rfl) (at_ly hx) ?_;conv=>whnf
  conv=>whnf
  refine .c (c) ?_;conv=>whnf
  refine .mk (ssR (m.shT (i+1))) rfl (shT_snoc m i) (by simp;omega) ?_;conv=>whnf
  exact⟨i+1,Wk.go,hi',by omega⟩
 ·conv=>whnf
  have e:i=m.ls.length:=by have:¬i<m.ls.length:=by simpa using g0
                           omega
  rw[e];exact .s ⟨rfl,rfl⟩
def Mo.cur (m:Mo)(x:List Rat)(i:Nat):List Rat:=(m.al x i).getD i []
def Mo.trc (m:Mo)(x:List Rat)(i:Nat):List (List Rat):=(m.al x i).tail
section
variable {m:Mo} {x:List Rat}
theorem al_ln (i:Nat):(m.al x i).length=i+1:=by
 induction i with
 |zero=>rfl
 |succ i ih=>rw[Mo.al,List.length_append,ih];rfl
theorem al_cons (i:Nat):m.al x i=x::m.trc x i:=by
 unfold Mo.trc
 induction i with
 |zero=>rfl
 |succ i ih=>rw[Mo.al,ih];rfl
theorem al_get {i j:Nat}(h:j≤i):(m.al x i).getD j []=m.cur x j:=by
 induction i with
 |zero=>rw[show j=0 by omega];rfl
 |succ i ih=>
  rcases Nat.lt_or_ge j (i+1)with h1|h1
  ·have ih:=ih (by omega);rw[List.getD_eq_getElem?_getD]at ih;rw[Mo.al,List.getD_eq_getElem?_getD,List.getElem?_append_left (by rw[al_ln];omega),ih]
  ·rw[show j=i+1 by omega];rfl
theorem cur_snoc (i:Nat):m.cur x (i+1)=eLay (m.lay i) (m.sh i) (m.al x i) (m.cur x i):=by
 rw[Mo.cur,Mo.al,List.getD_eq_getElem?_getD,List.getElem?_append_right (by rw[al_ln];omega),al_ln,Nat.sub_self];rfl
theorem trc_snoc (i:Nat):m.trc x (i+1)=m.trc x i++[m.cur x (i+1)]:=by
 have e:m.al x (i+1)=m.al x i++[m.cur x (i+1)]:=by rw[cur_snoc];rfl
 rw[Mo.trc,e,Mo.trc,al_cons];rfl
theorem trc_ln (i:Nat):(m.trc x i).length=i:=by
 have:=al_ln (m:=m) (x:=x) i;rw[al_cons,List.length_cons]at this;omega
theorem al_mem {i:Nat}{y:List Rat}(h:y∈m.al x i):∃j,j≤i∧y=m.cur x j:=by
 obtain⟨j,hj,e⟩:=List.getElem_of_mem h;rw[al_ln]at hj;refine⟨j,by omega,?_⟩;rw[←al_get (i:=i) (j:=j) (by omega),List.getD_eq_getElem?_getD,List.getElem?_eq_getElem (by rw[al_ln];omega),←e];rfl
theorem MoOk.cur (h:MoOk m)(hx:∀v∈x,Lv m.L 1 v)(hn:x.length=szS m.inp):∀(i:Nat),i≤m.ls.length→(∀j,j≤i→(∀v∈m.cur x j,Lv m.L (1+2*i) v)∧(m.cur x j).length=szS (m.sh j)):=by
 intro i
 induction i with
 |zero=>intro _ j hj;rw[show j=0 by omega];exact⟨hx,hn⟩
 |succ i ih=>
  intro hi j hj;have ih:=ih (by omega);rcases Nat.lt_or_ge j (i+1)with h1|h1
  ·obtain⟨a,b⟩:=ih j (by omega);exact⟨fun v hv=>(a v hv).mono h.L (by omega),b⟩
  ·rw[show j=i+1 by omega,cur_snoc];obtain⟨a,b⟩:=ih i (by omega);have hs:=h.sh i (by omega);refine⟨fun v hv=> ?_,?_⟩
   ·have:=ev_lv (h.lv (i:=i) (by omega)) hs.sz a b (fun y hy v hv=>by
     obtain⟨j,hj,rfl⟩:=al_mem hy;exact(ih j hj).1 v hv) (h.fit i (by omega)) v hv
    exact this.mono h.L (by omega)
   ·exact out_ln _ _ _ _ _ _ b (h.fit i (by omega))
theorem MoOk.evh (h:MoOk m)(hx:∀v∈x,Lv m.L 1 v)(hn:x.length=szS m.inp){i:Nat}(hi:i<m.ls.length):EvH m.L (1+2*i) (m.lay i) (m.sh i) (m.cur x i) x (m.trc x i):=by
 have hc:=h.cur hx hn i (by omega);have hn6:=h.n;refine⟨h.lv hi,by omega,(hc i (lR_ _)).1,(hc 0 (zL_ _)).1,fun y hy=> ?_,(hc i (lR_ _)).2,(h.sh i (by omega)).sz,(h.sh (i+1) (by omega)).sz,⟨_,_,h.fit i hi⟩,fun fr hfr=> ?_⟩
 ·obtain⟨j,hj,rfl⟩:=al_mem (i:=i) (by rw[al_cons];exact List.mem_cons_of_mem _ hy);exact(hc j hj).1
 ·have hf:=h.fit i hi;rw[hfr]at hf;obtain⟨f1,f2,f3⟩:=hf;rw[←al_cons,al_ln];refine⟨f1,by omega,?_⟩;rw[al_get (by omega),(hc _ (by omega)).2,(hc i (lR_ _)).2];rw[Mo.shs,List.getD_eq_getElem?_getD,List.getElem?_map,List.getElem?_range (by omega)]at f3;exact congrArg szS f3
end
def Mo.lyP (m:Mo):Nat→Ly
 |0=>⟨0,0,0,0,0,0,0,[],[]⟩
 |i+1=>Lay.ly (m.lay i)
theorem trc_rows (m:Mo)(x:List Rat)(i:Nat):trR (m.trc x (i+1))=trR (m.trc x i)++[[rqsD (m.cur x (i+1))]]:=by rw[trc_snoc,trR,List.map_append];rfl
theorem lx_trace {m:Mo}(h:MoOk m){x:List Rat}(hx:∀v∈x,Lv m.L 1 v)(hn:x.length=szS m.inp):
  LV Tryz.prog 25 [.agg m.A,.a (.d (rqsD x))] (.tup [.s (.d (.sl 1 (trR (m.trc x m.ls.length)))),.s (.d (.lit (.int .i64 0)))]):=by
 have hn6:=h.n;refine LX_run (m:=0) (n0:=0) mix Tryz.func25 rfl rfl rfl rfl ?_;conv=>whnf
 refine .c (lx_sof h) ?_;conv=>whnf
 refine .c (lx_tsize (h.sh 0 (zL_ _)).g) ?_;conv=>whnf
 refine bF (by simp[hn]) ?_;conv=>whnf
 refine .mk Nat (fun i=>⟨[(36,vl (.int .i64 (i:Nat))),(35,vl (.int .i64 (lyR m.ls).length)),(34,.a (.d (lysD m.ls))),(10,.a (.ptr 1 0)),(9,.a (.own 2 1 (trR (m.trc x i)))),(6,.a (.d (ssD (m.shT m.ls.length))))],
  [(0,.box 25 m.A),(1,.box 104 (stA (m.lyP i) (m.sh i) (m.cur x i) x (m.trc x (i-1)))),(2,.arr 29 1 (trR (m.trc x i)).length)],3⟩) (fun i=>i≤m.ls.length) (fun i=>m.ls.length-i) 0
  (Wk.trans (Wk.own 9 2 29 1 rfl rfl (zL_ _)) Wk.go) (zL_ _) fun i hi=> ?_
 conv=>whnf
 refine bs (fun g0=> ?_) (fun g0=> ?_)
 ·conv=>whnf
  have hi':i<m.ls.length:=by simpa using g0
  obtain⟨l,hl⟩:=at_some hi';have el:m.lay i=l:=getD_of hl;have c:=ev_output (h.evh hx hn hi');subst el;rw[←al_cons,←cur_snoc]at c;refine .mk (i) ((Lay.ly (m.lay i)).D) (rfl) (at_ly hl) ?_;conv=>whnf
  conv=>whnf
  refine .c (c) ?_;conv=>whnf
  refine .mk (i) ([shD (m.sh (i+1))]) (rfl) (at_ss (by rw[List.getElem?_map,List.getElem?_range hi'];rfl)) ?_;conv=>whnf
  conv=>whnf
  refine .mk (trR (m.trc x (i+1))) rfl (trc_rows m x i) (by rw[List.length_map,trc_ln];omega) ?_;conv=>whnf
  exact⟨i+1,Wk.go (h2:=⟨⟨_,rfl,wke_refl _,rfl⟩,⟨_,rfl,⟨_,rfl,aR_ _,aR_ _,aR_ _,aR_ _,aR_ _,aR_ _,aR_ _,aR_ _,aR_ _,aR_ _,aR_ _,aR_ _,WkA.own,trivial⟩,rfl⟩,⟨_,rfl,wke_refl _,rfl⟩,trivial⟩),hi',by omega⟩
 ·conv=>whnf
  have e:i=m.ls.length:=by have:¬i<m.ls.length:=by simpa using g0
                           omega
  rw[e];exact .s ⟨rfl,rfl⟩
theorem trc_at (m:Mo)(x:List Rat)(n:Nat):(trR (m.trc x (n+1)))[n]? =some [rqsD (m.cur x (n+1))]:=by
 rw[trc_rows,List.getElem?_append_right (by rw[List.length_map,trc_ln];exact lR_ _),List.length_map,trc_ln,Nat.sub_self];rfl
theorem MoOk.rl {m:Mo}(h:MoOk m){x:List Rat}(hx:∀v∈x,Lv m.L 1 v)(hn:x.length=szS m.inp):(m.cur x m.ls.length).length≤24:=by
 rw[((h.cur hx hn _ (lR_ _)) _ (lR_ _)).2];exact(h.sh _ (lR_ _)).sz
theorem lx_run {m:Mo}(h:MoOk m){x:List Rat}(hx:∀v∈x,Lv m.L 1 v)(hn:x.length=szS m.inp):
  LV Tryz.prog 8 [.agg m.A,.a (.d (rqsD x))] (.tup [.s (.d (rqsD (m.out x))),.s (.d (.lit (.int .i64 0)))]):=by
 have hn6:=h.n;have hl:=h.rl hx hn;have hx24:x.length≤24:=by rw[hn];exact(h.sh 0 (zL_ _)).sz
 have ho:m.out x=m.cur x m.ls.length:=rfl;refine LX_run (m:=0) (n0:=0) mix Tryz.func8 rfl rfl rfl rfl ?_;conv=>whnf
 refine .c (lx_trace h hx hn) ?_;conv=>whnf
 refine bs (fun g0=> ?_) (fun g0=> ?_)
 ·conv=>whnf
  have e:m.ls.length=0:=by simpa [trc_ln]using g0
  refine .own ?_;conv=>whnf
  refine .mk (rqR x) rfl rfl (by simp;omega) ?_;conv=>whnf
  exact .s ⟨by rw[ho,e];rfl,rfl⟩
 ·conv=>whnf
  have e:m.ls.length≠0:=by simpa [trc_ln]using g0
  obtain⟨n,hn'⟩:∃n,m.ls.length=n+1:=⟨m.ls.length-1,by omega⟩;refine .own ?_;conv=>whnf
  refine .mk (n) ([rqsD (m.cur x m.ls.length)]) (by rw[List.length_map,trc_ln,hn',show(((n+1:Nat):Int)-1)=(n:Nat) by omega,wrN (by omega)]) ((by rw[hn'];exact trc_at m x n)) ?_;conv=>whnf
  conv=>whnf
  refine .mk (rqR (m.cur x m.ls.length)) rfl rfl (by simp;omega) ?_;conv=>whnf
  exact .s ⟨rfl,rfl⟩
section
variable {P:Program} {F:FuncId} {vs gs:List V} {H:List (Nat×Ent)} {n:Nat} {K:V→List (Nat×Ent)→List Nat→Nat→Prop} {v:V} {R:V→Prop}
def okFK (ks:List Nat)(n:Nat)(gs:List V)(H H1:List (Nat×Ent)):Bool:=
 decide ks.Nodup&&ks.all (fun k=>Nat.blt k n)&&(gs.flatMap keysV).all (fun k=>ks.contains k)&&H1.all (fun p=>(Nat.blt p.1 ks.length||(look H (back ks n p.1)).isNone))
theorem Cn.lK {Hs H1:List (Nat×Ent)}(ks:List Nat)(hc:LX P F ((vs.map stripV).map (renV fun k=>ks.idxOf k)) Hs fun v' H'=>v'=v∧H'=H1)
  (hk:fX (renV (back ks n) v) fun v=>fHs (H1.map fun p=>(back ks n p.1,renE (back ks n) p.2)) fun sets=>K v sets (ks++H1.map fun p=>back ks n p.1) (n+H1.length)) (he:entT P F=true:=by rfl)
  (hl:lendKF ks (look H) 0 ks=some Hs:=by rfl) (hok:okFK ks n (vs.map stripV) H H1=true:=by rfl):Cn P F vs H n K:=by
 unfold okFK at hok;simp only[Bool.and_eq_true,Bool.or_eq_true,decide_eq_true_eq,List.all_eq_true,Nat.blt_eq,List.contains_eq_mem]at hok;obtain⟨⟨⟨o1,o2⟩,o3⟩,o4⟩:=hok;refine .lendK ks _ Hs _ he hc (strips_ok vs) o1 o2 hl o3 fun v' H1' hR=> ?_;obtain⟨rfl,rfl⟩:=hR;exact⟨fun p hp hle=>(o4 p hp).elim (fun h=>absurd h (by omega)) fun h=>by simpa using h,hk⟩
end
abbrev itV (z:Int):V:= .agg [.d (.lit (.bool (decide (z<0)))),.d (.lm (limbs z.natAbs))]
theorem itV_ai {γ:Gh}{h:Hp}{M:MS}{w:World}{r:Value}{z:Int}(h1:z.natAbs<18446744073709551616)(k:RdV γ h M w (itV z) r):AI z 2 w r:=by
 obtain⟨vs,rfl,k⟩:=k
 match vs,k with
 |[p,s],⟨k1,k2,_⟩=>
  rw[show p= .bool (decide (z<0))from lit_inv k1];exact CL.ai ⟨⟨s,rfl,rd_sl k2⟩,sz_le (k:=2) h1⟩
 |[],k=>exact k.elim
 |[_],k=>exact k.2.elim
 |_::_::_::_,k=>exact k.2.2.elim
theorem lx_iof {z:Int}(h1: -9223372036854775808≤z)(h2:z<9223372036854775808):LV Tryz.prog 84 [vl (.int .i64 z)] (itV z):=lv_of fun γ M w rs ha=>by
 obtain⟨r,rfl,k⟩:=all2_1 ha;rw[show r= .int .i64 z from lit_inv k]
 exact Calls.ret (iof_any h1 h2) fun _ v hv=>by
  obtain⟨⟨s,rfl,k⟩,_⟩:=hv;exact⟨[_,s],rfl,rfl,k,trivial⟩
theorem lx_rmake {y z:Int}(hz:z≠0)(h1:y.natAbs<18446744073709551616)(h2:z.natAbs<18446744073709551616):
  LV Tryz.prog 172 [itV y,itV z] (.tup [.g [.d (.lit (.bool (decide ((y:Rat)/z<0)))),.d (.lm (limbs ((y:Rat)/z).num.natAbs)),.d (.lm (limbs (dn ((y:Rat)/z))))],.s (.d (.lit (.int .i64 0)))]):=lv_of fun γ M w rs ha=>by
 obtain⟨r,s,rfl,k,k'⟩:=all2_2 ha;exact Calls.ret (rmk_ai hz (itV_ai h1 k) (itV_ai h2 k') (by decide) (by decide)) fun _ _=>CRE.ov
theorem lx_rfrac {y z:Int}(h1: -9223372036854775808≤y)(h2:y<9223372036854775808)(h3: -9223372036854775808≤z)(h4:z<9223372036854775808)(hz:z≠0):
  LV Tryz.prog 117 [vl (.int .i64 y),vl (.int .i64 z)] (.tup [.g [.d (.lit (.bool (decide ((y:Rat)/z<0)))),.d (.lm (limbs ((y:Rat)/z).num.natAbs)),.d (.lm (limbs (dn ((y:Rat)/z))))],.s (.d (.lit (.int .i64 0)))]):=by
 refine LX_run (m:=0) (n0:=0) mix Tryz.func117 rfl rfl rfl rfl ?_;conv=>whnf
 refine .c (lx_iof h1 h2) ?_;conv=>whnf
 refine .c (lx_iof h3 h4) ?_;conv=>whnf
 refine .c (lx_rmake hz (by omega) (by omega)) ?_;conv=>whnf
 exact .q ⟨rfl,rfl⟩
theorem lx_lvar {v:Int}:LV Tryz.prog 30 [vl (.int .i64 v)] (.agg (varS v).A):=by
 refine LX_run (m:=0) (n0:=0) mix Tryz.func30 rfl rfl rfl rfl ?_;conv=>whnf
 refine .c (lx_rof (z:=1) (by decide) (by decide)) ?_;conv=>whnf
 exact .s ⟨by show _=V.agg (A.d _::(can 0).A);rw[can0];rfl,rfl⟩
theorem lx_lnum {q:Rat}:LV Tryz.prog 114 [ratV q] (.agg (numS q).A):=by
 refine LX_run (m:=0) (n0:=0) mix Tryz.func114 rfl rfl rfl rfl ?_;conv=>whnf
 exact⟨_,_,⟨rfl,rfl⟩,WkV.agg ⟨WkA.nil,aR_ _,aR_ _,aR_ _,trivial⟩,rfl,trivial,rfl⟩
abbrev gUs (n:Int)(k:Nat)(us:List Af):List A:=[.d (.lit (.int .i64 n)),.own k 4 (us.map Af.D),.d (.lit (.slice none 0 0))]
theorem lx_unit1 {f:Af}{us:List Af}{n:Nat}(hn:n≤1000)(hu:us.length≤1000):
  LX Tryz.prog 29 [.agg f.A,.a (.ptr 0 0)] [(0,.box 36 (gUs (n:Nat) 1 us)),(1,.arr 79 4 (us.map Af.D).length)] fun v H=>v= .agg (varS ((n+us.length:Nat):Int)).A∧
   H=[(0,.box 36 (gUs (n:Nat) 1 (us++[f]))),(1,.arr 79 4 ((us++[f]).map Af.D).length)]:=by
 have ew:IntKind.i64.wrap (IntKind.i64.wrap ((n:Int)+(((us++[f]).map Af.D).length:Int))-1)=((n+us.length:Nat):Int):=by
  have e1:IntKind.i64.wrap ((n:Int)+(((us++[f]).map Af.D).length:Int))=((n+us.length+1:Nat):Int):=by
   rw[List.length_map,List.length_append,List.length_singleton,wr64 (by omega) (by omega)];omega
  rw[e1,wr64 (by omega) (by omega)];omega
 refine LX_run (m:=2) (n0:=2) mix Tryz.func29 rfl rfl rfl rfl ?_;conv=>whnf
 refine .mk ((us++[f]).map Af.D) rfl (by rw[List.map_append];rfl) (by simp;omega) ?_;conv=>whnf
 rw[ew];refine .c (lx_lvar) ?_;conv=>whnf
 exact⟨_,_,⟨rfl,rfl⟩,vR_ _,rfl,⟨⟨_,rfl,wke_refl _,rfl⟩,⟨_,rfl,wke_refl _,rfl⟩,trivial⟩,rfl⟩
theorem lx_lmean {l:List Af}{L e:Nat}{n:Int}(hL:LOk L)(he:e≤1000)(hx:∀f∈l,FLv L e e n f)(h0:0≤n)(hn:n≤100000)(hl:l.length≤1000)(h1:1≤l.length)(hq:Lv L 1 (1/(l.length:Rat))):LV Tryz.prog 64 [.a (.d (afsD l))] (.agg (meanG afO l).A):=by
 have hr:((1:Int):Rat)/((l.length:Int):Rat)=1/(l.length:Rat):=rfl;have hsum:∀i,i≤l.length→FLv L (e+1) (e+1) n (sumG afO (l.take i)):=fun i hi=>FLv.sumTo hL (fun f hf=>hx f (List.mem_of_mem_take hf)) (by simp;omega);have hlast:l.take l.length=l:=List.take_length;refine LX_run (m:=0) (n0:=0) mix Tryz.func64 rfl rfl rfl rfl ?_;conv=>whnf
 refine .mk Nat (fun i=>⟨[(10,vl (.int .i64 (i:Nat))),(9,vl (.int .i64 (l.map Af.D).length)),(8,.a (.d (afsD l))),(3,.a (.ptr 1 0)),(2,.a (.ptr 0 0)),(0,.a (.d (afsD l)))],
  [(0,.box 79 (numS 0).A),(1,.box 79 (sumG afO (l.take i)).A)],2⟩) (fun i=>i≤l.length) (fun i=>l.length-i) 0
  (Wk.go (h2:=by rw[show sumG afO (l.take 0)=numS 0 from rfl,numS0_A];exact⟨⟨_,rfl,⟨_,rfl,WkA.nil,aR_ _,aR_ _,aR_ _,trivial⟩,rfl⟩,⟨_,rfl,⟨_,rfl,WkA.nil,aR_ _,aR_ _,aR_ _,trivial⟩,rfl⟩,trivial⟩)) (zL_ _) fun i hi=> ?_
 conv=>whnf
 refine bs (fun g0=> ?_) (fun g0=> ?_)
 ·conv=>whnf
  have hi':i<l.length:=by simpa using g0
  obtain⟨f,hf⟩:=at_some hi';have h2:=pl_add ((hsum i (by omega)).fb (m:=e+1) hL (by omega) (by omega)) ((hx f (mG_ hf)).fb (m:=e+1) hL (by omega) (by omega)) h0 hn (by omega);rw[show addS (sumG afO (l.take i)) f=sumG afO (l.take (i+1)) by rw[take_snoc hf,sumG,sumG,List.foldl_append];rfl]at h2;refine .mk (i) (f.D) (rfl) (at_map hf) ?_;conv=>whnf
  conv=>whnf
  refine .c (h2) ?_;conv=>whnf
  exact⟨i+1,Wk.go,hi',by omega⟩
 ·conv=>whnf
  have e0:i=l.length:=by have:¬i<l.length:=by simpa using g0
                         omega
  rw[e0,hlast];rw[List.length_map];refine .c (lx_rfrac (y:=1) (z:=(l.length:Int)) (by decide) (by decide) (by omega) (by omega) (by omega)) ?_;conv=>whnf
  have hq':=pl_scale (((hsum l.length (lR_ _)).fb (m:=e+1) hL (by omega) (by omega))) (hq.bt hL) h0 hn (by omega);rw[hlast,←hr]at hq';refine .c (hq') ?_;conv=>whnf
  exact .q ⟨by rw[hr];rfl,rfl⟩
abbrev alR (all:List (List Af)):List (List D):=all.map fun l=>[afsD l]
abbrev lwA (l:Ly)(s:List Nat)(vs:List Af)(all:List (List Af)):List A:=[.d (.lit (.int .i64 l.kind)),.d (.lit (.int .i64 l.fr)),.d (.lit (.int .i64 l.out)),.d (.lit (.int .i64 l.kh)),.d (.lit (.int .i64 l.kw)),.d (.lit (.int .i64 l.st)),.d (.lit (.int .i64 l.pad)),.d (rqsD l.ws),.d (rqsD l.bs),.d (shD s),.d (afsD vs),.own 3 1 (alR all),.fn (.func 29) [] [.ptr 1 0]]
abbrev lwH (l:Ly)(s:List Nat)(vs:List Af)(all:List (List Af))(n:Nat)(us:List Af):List (Nat×Ent):=
 [(0,.box 76 (lwA l s vs all)),(1,.box 36 (gUs (n:Nat) 2 us)),(2,.arr 79 4 (us.map Af.D).length),(3,.arr 34 1 (alR all).length)]
def Fl (L e:Nat)(n:Int)(l:List Af):Prop:=∀f∈l,FLv L e e n f
theorem Fl.at {L e i:Nat}{n:Int}{l:List Af}{f:Af}(h:Fl L e n l)(hf:l[i]? =some f):FLv L e e n f:=h f (mG_ hf)
theorem lw_dense {l:Ly}{s:List Nat}{vs us:List Af}{all:List (List Af)}{L e n:Nat}{N:Int}(hL:LOk L)(he:e≤1000)(h0:0≤N)(hN:N≤100000)(hx:Fl L e N vs)(hw:Ll L 1 l.ws)(hb:Ll L 1 l.bs)(hn:vs.length≤24)(hbl:l.bs.length≤24)(hwl:l.ws.length=l.bs.length*vs.length):
  LX Tryz.prog 60 [.a (.ptr 0 0)] (lwH l s vs all n us) fun v H=>v= .a (.d (afsD (denseG afO l.ws l.bs vs)))∧H=lwH l s vs all n us:=by
 refine LX_run (m:=4) (n0:=4) mix Tryz.func60 rfl rfl rfl rfl ?_;conv=>whnf
 refine .mk Nat (fun r=>⟨[(15,vl (.int .i64 (r:Nat))),(14,vl (.int .i64 (rqR l.bs).length)),(13,.a (.d (rqsD l.bs))),(3,.a (.own 4 4 (((List.range r).map fun r=>dotN afO l.ws (r*vs.length) vs (l.bs.getD r 0) vs.length).map Af.D))),(0,.a (.ptr 0 0))],
  (4,.arr 79 4 (((List.range r).map fun r=>dotN afO l.ws (r*vs.length) vs (l.bs.getD r 0) vs.length).map Af.D).length)::lwH l s vs all n us,5⟩) (fun r=>r≤l.bs.length) (fun r=>l.bs.length-r) 0
  (Wk.trans (Wk.own 3 4 79 4 rfl rfl (by decide)) Wk.go) (zL_ _) fun r hr=> ?_
 generalize hO:(List.range r).map (fun r=>dotN afO l.ws (r*vs.length) vs (l.bs.getD r 0) vs.length)=O;conv=>whnf
 refine bs (fun g0=> ?_) (fun g0=> ?_)
 ·conv=>whnf
  have hr':r<l.bs.length:=by simpa using g0
  obtain⟨b,hb'⟩:=at_some hr';have eb:l.bs.getD r 0=b:=getD_of hb';have zb:=hb.at hb';refine .mk (r) ((can b).D) (rfl) (at_rq hb') ?_;conv=>whnf
  conv=>whnf
  refine .c (lx_lnum) ?_;conv=>whnf
  refine .mk Nat (fun k=>⟨[(27,vl (.int .i64 (k:Nat))),(26,vl (.int .i64 (vs.map Af.D).length)),(25,.a (.d (afsD vs))),(6,.a (.ptr 6 0)),(4,vl (.int .i64 (r:Nat))),(15,vl (.int .i64 (r:Nat))),(14,vl (.int .i64 (rqR l.bs).length)),(13,.a (.d (rqsD l.bs))),(3,.a (.own 4 4 (O.map Af.D))),(0,.a (.ptr 0 0))],
   (6,.box 79 (dotN afO l.ws (r*vs.length) vs b k).A)::(4,.arr 79 4 (O.map Af.D).length)::lwH l s vs all n us,7⟩) (fun k=>k≤vs.length) (fun k=>vs.length-k) 0
   Wk.go (zL_ _) fun k hk=> ?_
  have hd:=FLv.dotN (k:=k) hL (r*vs.length) hw hx zb (by omega);conv=>whnf
  refine bs (fun g1=> ?_) (fun g1=> ?_)
  ·conv=>whnf
   have hk':k<vs.length:=by simpa using g1
   obtain⟨v,hv⟩:=at_some hk';have hix:r*vs.length+k<l.ws.length:=by
    rw[hwl];have:=Nat.mul_le_mul_right vs.length (show r+1≤l.bs.length from hr');rw[Nat.add_mul]at this;omega
   obtain⟨w,hw'⟩:=at_some hix;have zv:=hx.at hv;have zw:=hw.at hw';have hm:r*vs.length≤24*24:=Nat.mul_le_mul (by omega) hn;have ei:IntKind.i64.wrap (IntKind.i64.wrap ((r:Int)*((vs.map Af.D).length:Int))+(k:Int))=((r*vs.length+k:Nat):Int):=by
    rw[List.length_map,←Int.natCast_mul,wrN (n:=r*vs.length) (by omega),←Int.natCast_add,wrN (by omega)]
   have es:dotN afO l.ws (r*vs.length) vs b (k+1)=addS (dotN afO l.ws (r*vs.length) vs b k) (scaleS v w):=by
    rw[dotN,atO,getD_of hv,getD_of hw'];rfl
   have c1:=pl_scale (zv.fb (m:=e) hL (by omega) (by omega)) (zw.bt hL) h0 hN (by omega);have c2:=pl_add (hd.fb (m:=e+2) hL (by omega) (by omega)) ((zv.scale zw).fb (m:=e+2) hL (by omega) (by omega)) h0 hN (by omega);rw[←es]at c2;refine .mk (k) (v.D) (rfl) (at_map hv) ?_;conv=>whnf
   conv=>whnf
   rw[ei];refine .mk (r*vs.length+k) ((can w).D) (rfl) (at_rq hw') ?_;conv=>whnf
   conv=>whnf
   refine .c (c1) ?_;conv=>whnf
   refine .c (c2) ?_;conv=>whnf
   refine .mk (by kernel_rfl) ?_;conv=>whnf
   exact⟨k+1,Wk.go,hk',by omega⟩
  ·conv=>whnf
   have ek:k=vs.length:=by simp at g1;omega
   subst ek;refine .mk ((O++[dotN afO l.ws (r*vs.length) vs b vs.length]).map Af.D) rfl (by rw[List.map_append];rfl) (by rw[List.length_map,List.length_append,←hO];simp;omega) ?_;conv=>whnf
   exact⟨r+1,by rw[range_map_snoc,hO,eb];exact Wk.go,hr',by omega⟩
 ·conv=>whnf
  have er:r=l.bs.length:=by simp at g0;omega
  subst er;exact⟨_,_,⟨rfl,rfl⟩,by rw[←hO];exact WkV.of WkA.own,rfl,⟨⟨_,rfl,wke_refl _,rfl⟩,⟨_,rfl,wke_refl _,rfl⟩,⟨_,rfl,wke_refl _,rfl⟩,⟨_,rfl,wke_refl _,rfl⟩,trivial⟩,rfl⟩
theorem lw_windows {l:Ly}{s:List Nat}{vs us:List Af}{all:List (List Af)}{n kh kw st pad:Nat}(h1:l.kh=kh)(h2:l.kw=kw)(h3:l.st=st)(h4:l.pad=pad)(hs:s.length=3)(ok:(winS s kh kw st pad).Ok):
  LX Tryz.prog 115 [.a (.ptr 0 0)] (lwH l s vs all n us) fun v H=>v= .a (.d (wnD (winS s kh kw st pad).all))∧H=lwH l s vs all n us:=by
 have hc:=lx_windows ok;rw[←shD3 hs]at hc;refine LX_run (m:=4) (n0:=4) mix Tryz.func115 rfl rfl rfl rfl ?_;conv=>whnf
 rw[h1,h2,h3,h4];refine .c (hc) ?_;conv=>whnf
 refine .mk (by kernel_rfl) ?_;conv=>whnf
 rw[←h1,←h2,←h3,←h4];exact⟨_,_,⟨rfl,rfl⟩,vR_ _,rfl,⟨⟨_,rfl,wke_refl _,rfl⟩,⟨_,rfl,wke_refl _,rfl⟩,⟨_,rfl,wke_refl _,rfl⟩,⟨_,rfl,wke_refl _,rfl⟩,trivial⟩,rfl⟩
abbrev afR (l:List Af):List (List D):=l.map Af.D
theorem lw_conv {l:Ly}{s:List Nat}{x us:List Af}{all:List (List Af)}{L e n:Nat}{N:Int}{kh kw st pad:Nat}(hL:LOk L)(he:e≤1000)(h0:0≤N)(hN:N≤100000)(hx:Fl L e N x)(hw:Ll L 1 l.ws)(hb:Ll L 1 l.bs)(hbl:l.bs.length≤24)
  (h1:l.kh=kh) (h2:l.kw=kw) (h3:l.st=st) (h4:l.pad=pad) (hs:s.length=3) (ok:(winS s kh kw st pad).Ok) (hn:x.length=szS s) (hwl:l.ws.length=l.bs.length*(s.getD 0 0*(kh*kw))):
  LX Tryz.prog 61 [.a (.ptr 0 0)] (lwH l s x all n us) fun v H=>v= .a (.d (afsD (convG afO (winS s kh kw st pad).all l.ws l.bs x)))∧H=lwH l s x all n us:=by
 obtain⟨_,_,⟨rfl,rfl⟩,hwin⟩:=lw_windows (l:=l) (vs:=x) (us:=us) (all:=all) (n:=n) h1 h2 h3 h4 hs ok;have hwin:LX Tryz.prog 115 [.a (.ptr 0 0)] (lwH l s x all n us) fun v H=>v= .a (.d (wnD (winS s kh kw st pad).all))∧H=lwH l s x all n us:=⟨_,_,⟨rfl,rfl⟩,hwin⟩;have bd:=ok.bd;have hal:∀w∈(winS s kh kw st pad).all,w.length=s.getD 0 0*(kh*kw):=fun w h=>Wn.all_len h
 have hmb:∀w∈(winS s kh kw st pad).all,∀z∈w,-1≤z∧z<(x.length:Int):=fun w h z hz=>by
  have:=Wn.mem_b h hz;rw[hn,len3 hs,szS3];exact this
 have hm1:s.getD 0 0*(kh*kw)≤864:=bd.len;have hWl:(winS s kh kw st pad).all.length≤900:=by rw[Wn.all_ln];exact bd.p1
 generalize (winS s kh kw st pad).all=W at *
 generalize s.getD 0 0*(kh*kw)=m at *
 refine LX_run (m:=4) (n0:=4) mix Tryz.func61 rfl rfl rfl rfl ?_;conv=>whnf
 refine Cn.lK [0,1,2,3] hwin ?_;conv=>whnf
 refine .mk Nat (fun c=>⟨[(20,vl (.int .i64 (c:Nat))),(19,vl (.int .i64 (rqR l.bs).length)),(18,.a (.d (rqsD l.bs))),(4,.a (.d (wnD W))),(3,.a (.own 4 4 (afR (cvTo afO W l.ws l.bs x c 0)))),(0,.a (.ptr 0 0))],
  (4,.arr 79 4 (afR (cvTo afO W l.ws l.bs x c 0)).length)::lwH l s x all n us,5⟩) (fun c=>c≤l.bs.length) (fun c=>l.bs.length-c) 0
  (Wk.trans (Wk.own 3 4 79 4 rfl rfl (by decide)) Wk.go) (zL_ _) fun c hc=> ?_
 conv=>whnf
 refine bs (fun g0=> ?_) (fun g0=> ?_)
 ·conv=>whnf
  have hc':c<l.bs.length:=by simpa using g0
  obtain⟨b,hb'⟩:=at_some hc';have eb:l.bs.getD c 0=b:=getD_of hb';have zb:=hb.at hb';refine .mk (c) ((can b).D) (rfl) (at_rq hb') ?_;conv=>whnf
  conv=>whnf
  refine .mk Nat (fun j=>⟨[(27,vl (.int .i64 (j:Nat))),(26,vl (.int .i64 (wnR W).length)),(25,.a (.d (wnD W))),(5,vl (.int .i64 (c:Nat))),(6,.a (.ptr 5 0)),(20,vl (.int .i64 (c:Nat))),(19,vl (.int .i64 (rqR l.bs).length)),(18,.a (.d (rqsD l.bs))),(4,.a (.d (wnD W))),(3,.a (.own 4 4 (afR (cvTo afO W l.ws l.bs x c j)))),(0,.a (.ptr 0 0))],
   (5,.box 56 (can b).A)::(4,.arr 79 4 (afR (cvTo afO W l.ws l.bs x c j)).length)::lwH l s x all n us,6⟩) (fun j=>j≤W.length) (fun j=>W.length-j) 0
   Wk.go (zL_ _) fun j hj=> ?_
  conv=>whnf
  refine bs (fun g1=> ?_) (fun g1=> ?_)
  ·conv=>whnf
   have hj':j<W.length:=by simpa using g1
   obtain⟨w,hw'⟩:=at_some hj';have hwm:=mG_ hw';have hwlen:=hal w hwm;refine .mk (j) ([inD w]) (rfl) (at_wn hw') ?_;conv=>whnf
   conv=>whnf
   refine .c (lx_lnum) ?_;conv=>whnf
   refine .mk Nat (fun k=>⟨[(35,vl (.int .i64 (k:Nat))),(34,vl (.int .i64 (inR w).length)),(33,.a (.d (inD w))),(9,.a (.ptr 6 0)),(8,.a (.d (inD w))),(27,vl (.int .i64 (j:Nat))),(26,vl (.int .i64 (wnR W).length)),(25,.a (.d (wnD W))),(5,vl (.int .i64 (c:Nat))),(6,.a (.ptr 5 0)),(20,vl (.int .i64 (c:Nat))),(19,vl (.int .i64 (rqR l.bs).length)),(18,.a (.d (rqsD l.bs))),(4,.a (.d (wnD W))),(3,.a (.own 4 4 (afR (cvTo afO W l.ws l.bs x c j)))),(0,.a (.ptr 0 0))],
    (6,.box 79 (cvN afO l.ws (c*w.length) w x b k).A)::(5,.box 56 (can b).A)::(4,.arr 79 4 (afR (cvTo afO W l.ws l.bs x c j)).length)::lwH l s x all n us,7⟩) (fun k=>k≤w.length) (fun k=>w.length-k) 0
    Wk.go (zL_ _) fun k hk=> ?_
   have hd:=FLv.cvN (k:=k) hL (c*w.length) w hw hx zb (by omega);conv=>whnf
   refine bs (fun g2=> ?_) (fun g2=> ?_)
   ·conv=>whnf
    have hk':k<w.length:=by simpa using g2
    obtain⟨z,hz⟩:=at_some hk';obtain⟨z1,z2⟩:=hmb w hwm z (mG_ hz);have ez:w.getD k 0=z:=getD_of hz;refine .mk (k) ([D.lit (.int .i64 z)]) (rfl) (at_inR hz) ?_;conv=>whnf
    conv=>whnf
    refine bs (fun g3=> ?_) (fun g3=> ?_)
    ·conv=>whnf
     have hz0:0≤z:=of_decide_eq_true g3;obtain⟨zn,rfl⟩:∃n:Nat,z=n:=⟨z.toNat,by omega⟩;obtain⟨v,hv⟩:=at_some (l:=x) (i:=zn) (by omega);have hix:c*w.length+k<l.ws.length:=by
      rw[hwl,hwlen];have:=Nat.mul_le_mul_right m (show c+1≤l.bs.length from hc');rw[Nat.add_mul]at this;omega
     obtain⟨u,hu⟩:=at_some hix;have zv:=hx.at hv;have zu:=hw.at hu;have hm:c*w.length≤24*864:=Nat.mul_le_mul (by omega) (by omega);have ei:IntKind.i64.wrap (IntKind.i64.wrap ((c:Int)*((inR w).length:Int))+(k:Int))=((c*w.length+k:Nat):Int):=by
      rw[List.length_map,←Int.natCast_mul,wrN (n:=c*w.length) (by omega),←Int.natCast_add,wrN (by omega)]
     have es:cvN afO l.ws (c*w.length) w x b (k+1)=addS (cvN afO l.ws (c*w.length) w x b k) (scaleS v u):=by
      rw[cvN,ez,if_pos hz0,atO,Int.toNat_natCast,getD_of hv,getD_of hu];rfl
     have c1:=pl_scale (zv.fb (m:=e) hL (by omega) (by omega)) (zu.bt hL) h0 hN (by omega);have c2:=pl_add (hd.fb (m:=e+2) hL (by omega) (by omega)) ((zv.scale zu).fb (m:=e+2) hL (by omega) (by omega)) h0 hN (by omega);rw[←es]at c2;refine .mk (zn) (v.D) (rfl) (at_map hv) ?_;conv=>whnf
     conv=>whnf
     rw[ei];refine .mk ((c*w.length+k)) ((can u).D) (rfl) (at_rq hu) ?_;conv=>whnf
     conv=>whnf
     refine .c (c1) ?_;conv=>whnf
     refine .c (c2) ?_;conv=>whnf
     refine .mk (by kernel_rfl) ?_;conv=>whnf
     exact⟨k+1,Wk.go,hk',by omega⟩
    ·conv=>whnf
     have hz0:=of_decide_eq_false g3;exact⟨k+1,by rw[cvN,ez,if_neg hz0];exact Wk.go,hk',by omega⟩
   ·conv=>whnf
    have ek:k=w.length:=by simp at g2;omega
    subst ek;have hln:=cvTo_len afO W l.ws l.bs x c j;have hq:c*W.length≤24*900:=Nat.mul_le_mul (by omega) hWl;refine .mk (afR (cvTo afO W l.ws l.bs x c j++[cvN afO l.ws (c*w.length) w x b w.length])) rfl (by rw[afR,List.map_append];rfl) (by rw[afR,List.length_map,List.length_append];simp only[List.length_singleton];omega) ?_;conv=>whnf
    exact⟨j+1,by rw[cvTo_snoc afO W l.ws l.bs x c j hw',eb];exact Wk.go,hj',by omega⟩
  ·conv=>whnf
   have ej:j=W.length:=by simp at g1;omega
   subst ej;exact⟨c+1,by rw[cvTo_end];exact Wk.go,hc',by omega⟩
 ·conv=>whnf
  have ec:c=l.bs.length:=by simp at g0;omega
  subst ec;exact⟨_,_,⟨rfl,rfl⟩,by rw[cvTo_all];exact WkV.of WkA.own,rfl,⟨⟨_,rfl,wke_refl _,rfl⟩,⟨_,rfl,wke_refl _,rfl⟩,⟨_,rfl,wke_refl _,rfl⟩,⟨_,rfl,wke_refl _,rfl⟩,trivial⟩,rfl⟩
theorem lw_max1 {ly:Ly}{s:List Nat}{vs us:List Af}{all:List (List Af)}{n:Nat}{f:Af}:
  LX Tryz.prog 63 [.a (.ptr 0 0),.a (.d (afsD [f]))] (lwH ly s vs all n us) fun v H=>v= .agg f.A∧H=lwH ly s vs all n us:=by
 refine LX_run (m:=4) (n0:=4) mix Tryz.func63 rfl rfl rfl rfl ?_;conv=>whnf
 refine .mk (0) (f.D) (rfl) (rfl) ?_;conv=>whnf
 conv=>whnf
 exact⟨_,_,⟨rfl,rfl⟩,vR_ _,rfl,⟨⟨_,rfl,wke_refl _,rfl⟩,⟨_,rfl,wke_refl _,rfl⟩,⟨_,rfl,wke_refl _,rfl⟩,⟨_,rfl,wke_refl _,rfl⟩,trivial⟩,rfl⟩
theorem mxF_one {n k:Nat}{us l:List Af}{f:Af}(h:l=[f]):mxF n k us l=(us,f):=by
 subst h
 cases k with
 |zero=>rfl
 |succ k=>exact if_pos rfl
theorem lw_max {ly:Ly}{s:List Nat}{vs:List Af}{all:List (List Af)}{L E n:Nat}(hL:LOk L)(hE:E≤1000)(hn:n≤1000):∀(k e:Nat) (us l:List Af),1≤e→e+l.length≤E→1≤l.length→l.length≤k+1→us.length+l.length≤1000→UsOk L E n us→(∀f∈l,FLv L e e ((n+us.length:Nat):Int) f)→
  LX Tryz.prog 63 [.a (.ptr 0 0),.a (.d (afsD l))] (lwH ly s vs all n us) fun v H=>v= .agg (mxF n k us l).2.A∧H=lwH ly s vs all n (mxF n k us l).1
 |0,e,us,l,he,hle,h1,h2,hul,hu,hl=>by
  obtain⟨f,rfl⟩:∃f,l=[f]:=by match l,h1,h2 with|[f],_,_=>exact⟨f,rfl⟩
  rw[mxF_one rfl];exact lw_max1
 |k+1,e,us,l,he,hle,h1,h2,hul,hu,hl=>by
  by_cases h3:l.length=1
  ·obtain⟨f,rfl⟩:∃f,l=[f]:=by match l,h3 with|[f],_=>exact⟨f,rfl⟩
   rw[mxF_one rfl];exact lw_max1
  ·rw[mxF,if_neg h3];obtain⟨m,hm⟩:∃m,m=(l.length+1)/2:=⟨_,rfl⟩;rw[←hm];have m1:1≤m∧m+1≤l.length∧m≤k+1∧l.length-m≤k+1:=by omega
   have t1:(l.take m).length=m:=by rw[List.length_take];omega
   have t2:(l.drop m).length=l.length-m:=List.length_drop;have hA:=mxF_ok hL k e us (l.take m) he (by omega) (by omega) (by omega) hu fun f hf=>hl f (List.mem_of_mem_take hf);have cA:=lw_max (ly:=ly) (s:=s) (vs:=vs) (all:=all) hL hE hn k e us (l.take m) he (by omega) (by omega) (by omega) (by omega) hu fun f hf=>hl f (List.mem_of_mem_take hf);generalize mxF n k us (l.take m)=A at *
   obtain⟨uA,gA⟩:=A;obtain⟨⟨ea,e1,e2⟩,ua,fa,_⟩:=hA;simp only at e1 ua fa cA ⊢;have lA:uA.length=us.length+(m-1):=by rw[e1,List.length_append,e2,t1]
   have hl2:∀f∈l.drop m,FLv L e e ((n+uA.length:Nat):Int) f:=fun f hf=>(hl f (List.mem_of_mem_drop hf)).up hL (lR_ _) (by omega);have hB:=mxF_ok hL k e uA (l.drop m) he (by omega) (by omega) (by omega) ua hl2;have cB:=lw_max (ly:=ly) (s:=s) (vs:=vs) (all:=all) hL hE hn k e uA (l.drop m) he (by omega) (by omega) (by omega) (by omega) ua hl2;generalize mxF n k uA (l.drop m)=B at *
   obtain⟨uB,gB⟩:=B;obtain⟨⟨eb,e3,e4⟩,ub,fb,_⟩:=hB;simp only at e3 ub fb cB ⊢;have lB:uB.length=uA.length+(l.length-m-1):=by rw[e3,List.length_append,e4,t2]
   rw[t1]at fa;rw[t2]at fb;have fa':=fa.up (e':=E) (n':=n+(uB.length+1)) hL (by omega) (by omega);have fb':=fb.up (e':=E) (n':=n+(uB.length+1)) hL (by omega) (by omega);have c1:=pl_sub (fb'.fb (m:=E) hL (by omega) (by omega)) (fa'.fb (m:=E) hL (by omega) (by omega)) (by omega) (by omega) (by omega);have f2:FLv L E E ((n+(uB.length+1):Nat):Int) (varS ((n+uB.length:Nat):Int)):=FLv.var hL (Int.natCast_nonneg _) (Int.ofNat_lt.2 (by omega)) (by omega);have c2:=pl_add (fa'.fb (m:=E) hL (by omega) (by omega)) (f2.fb (m:=E) hL (by omega) (by omega)) (by omega) (by omega) (by omega);have cU:=lx_unit1 (f:=subS gB gA) (us:=uB) (n:=n) hn (by omega);refine LX_run (m:=4) (n0:=4) mix Tryz.func63 rfl rfl rfl rfl ?_;conv=>whnf
   refine bF (decide_eq_false (by simp;omega)) ?_;conv=>whnf
   have ew:IntKind.i64.wrap ((IntKind.i64.wrap (((l.map Af.D).length:Int)+1)).tdiv 2)=((m:Nat):Int):=by
    have e1:IntKind.i64.wrap (((l.map Af.D).length:Int)+1)=((l.length+1:Nat):Int):=by rw[List.length_map,wr64 (by omega) (by omega)];omega
    rw[e1,hm,Int.tdiv_eq_ediv_of_nonneg (by omega),show(2:Int)=((2:Nat):Int)from rfl,←Int.natCast_ediv,wrN (by omega)]
   rw[ew];refine .mk 0 m ((l.take m).map Af.D) rfl rfl (by omega) (by simp;omega) (by rw[List.drop_zero,List.map_take]) ?_;conv=>whnf
   refine Cn.lK [0,1,2,3] cA ?_;conv=>whnf
   refine .mk m l.length ((l.drop m).map Af.D) rfl (by simp) (by omega) (by simp) (by rw[List.take_of_length_le (by simp),List.map_drop]) ?_;conv=>whnf
   refine Cn.lK [0,1,2,3] cB ?_;conv=>whnf
   refine .c (c1) ?_;conv=>whnf
   refine Cn.lK [1,2] cU ?_;conv=>whnf
   refine .c (c2) ?_;conv=>whnf
   refine .mk (by kernel_rfl) ?_;conv=>whnf
   exact⟨_,_,⟨rfl,rfl⟩,vR_ _,rfl,⟨⟨_,rfl,wke_refl _,rfl⟩,⟨_,rfl,wke_refl _,rfl⟩,⟨_,rfl,wke_refl _,rfl⟩,⟨_,rfl,wke_refl _,rfl⟩,trivial⟩,rfl⟩
def fsG (φ:List Af→List Af→List Af×Af):List Af→List (List Af)→List Af×List Af
 |us,[]=>(us,[])
 |us,l::r=>((fsG φ (φ us l).1 r).1,(φ us l).2::(fsG φ (φ us l).1 r).2)
theorem fsG_snoc (φ:List Af→List Af→List Af×Af)(l:List Af):∀(ls:List (List Af)) (us:List Af),fsG φ us (ls++[l])=((φ (fsG φ us ls).1 l).1,(fsG φ us ls).2++[(φ (fsG φ us ls).1 l).2])
 |[],us=>rfl
 |y::ls,us=>by rw[List.cons_append,fsG,fsG_snoc φ l ls];rfl
theorem fsG_mxs (n:Nat):∀(ls:List (List Af)) (us:List Af),fsG (fun us l=>mxF n l.length us l) us ls=mxs n us ls
 |[],us=>rfl
 |y::ls,us=>by rw[fsG,fsG_mxs n ls,mxs]
theorem fsG_mean (us:List Af):∀(ls:List (List Af)),fsG (fun us l=>(us,meanG afO l)) us ls=(us,ls.map (meanG afO))
 |[]=>rfl
 |y::ls=>by rw[fsG,fsG_mean us ls];rfl
theorem fsG_len (φ:List Af→List Af→List Af×Af):∀(ls:List (List Af)) (us:List Af),(fsG φ us ls).2.length=ls.length
 |[],us=>rfl
 |y::ls,us=>by rw[fsG,List.length_cons,fsG_len φ ls,List.length_cons]
def pkF (W:List (List Int))(n:Nat)(x:List Af)(c j:Nat):List (List Af):=((List.range c).flatMap fun ch=>W.map fun w=>pick afO x n w ch)++(W.take j).map fun w=>pick afO x n w c
theorem pkF_end (W:List (List Int))(n:Nat)(x:List Af)(c:Nat):pkF W n x c W.length=pkF W n x (c+1) 0:=by
 unfold pkF;rw[range_fm_snoc,List.take_length,List.take_zero,List.map_nil,List.append_nil]
theorem pkF_snoc (W:List (List Int))(n:Nat)(x:List Af)(c j:Nat){w:List Int}(h:W[j]? =some w):pkF W n x c (j+1)=pkF W n x c j++[pick afO x n w c]:=by
 unfold pkF;rw[take_snoc h,List.map_append,←List.append_assoc];rfl
theorem pkF_all (W:List (List Int))(n:Nat)(x:List Af)(c:Nat):pkF W n x c 0=picks afO W c n x:=by
 unfold pkF picks;rw[List.take_zero,List.map_nil,List.append_nil]
theorem pkF_len (W:List (List Int))(n:Nat)(x:List Af)(c j:Nat):(pkF W n x c j).length≤c*W.length+j:=by
 unfold pkF;rw[List.length_append,fm_len (fun i=>List.length_map ..),List.length_map,List.length_take];omega
theorem pk_split (W:List (List Int))(n:Nat)(x:List Af){C c j:Nat}{w:List Int}(hc:c<C)(h:W[j]? =some w):∃r,pkF W n x c j++pick afO x n w c::r=picks afO W C n x:=by
 have h1:∀c',∃r,pkF W n x (c+1) 0++r=picks afO W (c+1+c') n x:=by
  intro c'
  induction c' with
  |zero=>exact⟨[],by rw[pkF_all,List.append_nil]⟩
  |succ c' ih=>
   obtain⟨r,hr⟩:=ih;refine⟨r++W.map fun w=>pick afO x n w (c+1+c'),?_⟩;rw[←List.append_assoc,hr,picks,show c+1+(c'+1)=c+1+c'+1 by omega,picks,range_fm_snoc]
 obtain⟨r,hr⟩:=h1 (C-(c+1));rw[show c+1+(C-(c+1))=C by omega,←pkF_end]at hr;have hj:=at_lt h;have h2:pkF W n x c W.length=pkF W n x c (j+1)++(W.drop (j+1)).map fun w=>pick afO x n w c:=by
  unfold pkF;rw[List.append_assoc,←List.map_append,List.take_append_drop,List.take_length]
 rw[h2,pkF_snoc W n x c j h]at hr;exact⟨(W.drop (j+1)).map (fun w=>pick afO x n w c)++r,by rw[←hr];simp only[List.append_assoc,List.singleton_append];rfl⟩
theorem lw_poolX {l:Ly}{s:List Nat}{x us:List Af}{all:List (List Af)}{n0 kh kw st pad:Nat}(P:Nat→Nat→List Af×List Af)(φ:List Af→List Af→List Af×Af)(hp:pad=0)
  (h1:l.kh=kh) (h2:l.kw=kw) (h3:l.st=st) (h4:l.pad=pad) (hs:s.length=3) (ok:(winS s kh kw st pad).Ok) (hn:x.length=szS s)
  (hP0:P 0 0=(us,[])) (hPe:∀c,P (c+1) 0=P c (winS s kh kw st pad).all.length)
  (hPs:∀c j w,c<s.getD 0 0→(winS s kh kw st pad).all[j]? =some w→P c (j+1)=((φ (P c j).1 (pick afO x (kh*kw) w c)).1,(P c j).2++[(φ (P c j).1 (pick afO x (kh*kw) w c)).2]))
  (hPl:∀c j,(P c j).2.length≤c*(winS s kh kw st pad).all.length+j)
  (hF:∀c j w,c<s.getD 0 0→(winS s kh kw st pad).all[j]? =some w→LX Tryz.prog 63 [.a (.ptr 0 0),.a (.d (afsD (pick afO x (kh*kw) w c)))] (lwH l s x all n0 (P c j).1) fun v H=>v= .agg (φ (P c j).1 (pick afO x (kh*kw) w c)).2.A∧H=lwH l s x all n0 (φ (P c j).1 (pick afO x (kh*kw) w c)).1):
  LX Tryz.prog 62 [.a (.ptr 0 0),.a (.fn (.func 63) [.ptr 0 0] [])] (lwH l s x all n0 us) fun v H=>v= .a (.d (afsD (P (s.getD 0 0) 0).2))∧H=lwH l s x all n0 (P (s.getD 0 0) 0).1:=by
 have hwin:=lw_windows (l:=l) (vs:=x) (us:=us) (all:=all) (n:=n0) h1 h2 h3 h4 hs ok;obtain⟨lk,lf,lo,lkh,lkw,lst,lpad,lws,lbs⟩:=l;simp only at h1 h2 h3 h4;subst h1 h2 h3 h4;have bd:=ok.bd;have hal:∀w∈(winS s kh kw st pad).all,w.length=s.getD 0 0*(kh*kw):=fun w h=>Wn.all_len h
 have hmb:∀w∈(winS s kh kw st pad).all,∀z∈w,0≤z∧z<(x.length:Int):=fun w h z hz=>by
  have:=Wn.mem_b h hz;rw[hn,len3 hs,szS3];exact⟨Wn.mem_nn hp ok h hz,this.2⟩
 have hc24:s.getD 0 0≤24:=bd.c;have hkk:kh*kw≤36:=ok.n.2;have hWl:(winS s kh kw st pad).all.length≤900:=by rw[Wn.all_ln];exact bd.p1
 have hk6:kh≤6∧kw≤6:=⟨ok.kh.2,ok.kw.2⟩;have hs0:s[0]? =some (s.getD 0 0):=by rw[len3 hs];rfl
 generalize (winS s kh kw st pad).all=W at *
 generalize hC:s.getD 0 0=C at *
 have ekk:IntKind.i64.wrap ((kh:Int)*(kw:Int))=((kh*kw:Nat):Int):=by rw[←Int.natCast_mul,wrN (by omega)]
 generalize hN:kh*kw=n at *
 refine LX_run (m:=4) (n0:=4) mix Tryz.func62 rfl rfl rfl rfl ?_;conv=>whnf
 refine Cn.lK [0,1,2,3] hwin ?_;conv=>whnf
 rw[ekk];refine .mk (by kernel_rfl) ?_;conv=>whnf
 refine .mk (0) ([D.lit (.int .i64 (C:Nat))]) (rfl) (at_nI hs0) ?_;conv=>whnf
 conv=>whnf
 refine .mk Nat (fun c=>⟨[(33,vl (.int .i64 (c:Nat))),(32,vl (.int .i64 (C:Nat))),(7,vl (.int .i64 (n:Nat))),(6,.a (.d (wnD W))),(1,.a (.fn (.func 63) [.ptr 0 0] [])),(5,.a (.own 4 4 (afR (P c 0).2))),(0,.a (.ptr 0 0))],
  (4,.arr 79 4 (afR (P c 0).2).length)::lwH ⟨lk,lf,lo,kh,kw,st,pad,lws,lbs⟩ s x all n0 (P c 0).1,5⟩) (fun c=>c≤C) (fun c=>C-c) 0
  (by rw[hP0];exact Wk.trans (Wk.own 5 4 79 4 rfl rfl (by decide)) Wk.go) (zL_ _) fun c hc=> ?_
 conv=>whnf
 refine bs (fun g0=> ?_) (fun g0=> ?_)
 ·conv=>whnf
  have hc':c<C:=by simpa using g0
  refine .mk Nat (fun j=>⟨[(38,vl (.int .i64 (j:Nat))),(37,vl (.int .i64 (wnR W).length)),(36,.a (.d (wnD W))),(8,vl (.int .i64 (c:Nat))),(33,vl (.int .i64 (c:Nat))),(32,vl (.int .i64 (C:Nat))),(7,vl (.int .i64 (n:Nat))),(6,.a (.d (wnD W))),(1,.a (.fn (.func 63) [.ptr 0 0] [])),(5,.a (.own 4 4 (afR (P c j).2))),(0,.a (.ptr 0 0))],
   (4,.arr 79 4 (afR (P c j).2).length)::lwH ⟨lk,lf,lo,kh,kw,st,pad,lws,lbs⟩ s x all n0 (P c j).1,5⟩) (fun j=>j≤W.length) (fun j=>W.length-j) 0
   Wk.go (zL_ _) fun j hj=> ?_
  conv=>whnf
  refine bs (fun g1=> ?_) (fun g1=> ?_)
  ·conv=>whnf
   have hj':j<W.length:=by simpa using g1
   obtain⟨w,hw'⟩:=at_some hj';have hwm:=mG_ hw';have hwlen:=hal w hwm;have b0:(c+1)*n≤C*n:=Nat.mul_le_mul_right _ hc';have b1:c*n≤(c+1)*n:=Nat.mul_le_mul_right _ (by omega);have b2:C*n≤24*36:=Nat.mul_le_mul hc24 hkk;have e1:IntKind.i64.wrap ((c:Int)*(n:Int))=((c*n:Nat):Int):=by rw[←Int.natCast_mul,wrN (by omega)]
   have e2:IntKind.i64.wrap ((c:Int)+1)=((c+1:Nat):Int):=by rw[wr64 (by omega) (by omega)];omega
   have e3:IntKind.i64.wrap (((c+1:Nat):Int)*(n:Int))=(((c+1)*n:Nat):Int):=by rw[←Int.natCast_mul,wrN (by omega)]
   have hcall:=hF c j w hc' hw';have hstep:=hPs c j w hc' hw';have hln:=hPl c j;have hq:c*W.length≤24*900:=Nat.mul_le_mul (by omega) hWl;obtain⟨zs,hzs⟩:∃zs,zs=(w.take ((c+1)*n)).drop (c*n):=⟨_,rfl⟩;have hzl:zs.length≤900:=by rw[hzs,List.length_drop,List.length_take];omega
   have hzm:∀z∈zs,0≤z∧z<(x.length:Int):=fun z hz=>hmb w hwm z (List.mem_of_mem_take (List.mem_of_mem_drop (hzs▸hz)));have hpk:pick afO x n w c=zs.map fun i=>atO afO x i.toNat:=by rw[hzs];rfl
   refine .mk (j) ([inD w]) (rfl) (at_wn hw') ?_;conv=>whnf
   conv=>whnf
   rw[e1,e2,e3];refine .mk (c*n) ((c+1)*n) (inR zs) rfl rfl (by omega) (by rw[List.length_map];omega) (by rw[hzs,inR,inR,List.map_drop,List.map_take]) ?_;conv=>whnf
   refine .mk Nat (fun k=>⟨[(52,vl (.int .i64 (k:Nat))),(51,vl (.int .i64 (inR zs).length)),(50,.a (.d (inD zs))),(11,.a (.own 5 4 (afR ((zs.take k).map fun i=>atO afO x i.toNat)))),(38,vl (.int .i64 (j:Nat))),(37,vl (.int .i64 (wnR W).length)),(36,.a (.d (wnD W))),(8,vl (.int .i64 (c:Nat))),(33,vl (.int .i64 (c:Nat))),(32,vl (.int .i64 (C:Nat))),(7,vl (.int .i64 (n:Nat))),(6,.a (.d (wnD W))),(1,.a (.fn (.func 63) [.ptr 0 0] [])),(5,.a (.own 4 4 (afR (P c j).2))),(0,.a (.ptr 0 0))],
    (5,.arr 79 4 (afR ((zs.take k).map fun i=>atO afO x i.toNat)).length)::(4,.arr 79 4 (afR (P c j).2).length)::lwH ⟨lk,lf,lo,kh,kw,st,pad,lws,lbs⟩ s x all n0 (P c j).1,6⟩) (fun k=>k≤zs.length) (fun k=>zs.length-k) 0
    (Wk.trans (Wk.own 11 5 79 4 rfl rfl (by decide)) Wk.go) (zL_ _) fun k hk=> ?_
   conv=>whnf
   refine bs (fun g2=> ?_) (fun g2=> ?_)
   ·conv=>whnf
    have hk':k<zs.length:=by simpa using g2
    obtain⟨z,hz⟩:=at_some hk';obtain⟨z1,z2⟩:=hzm z (mG_ hz);obtain⟨v,hv⟩:=at_some (l:=x) (i:=z.toNat) (by omega);have es:afR ((zs.take (k+1)).map fun i=>atO afO x i.toNat)=afR ((zs.take k).map fun i=>atO afO x i.toNat)++[v.D]:=by
     rw[take_snoc hz,List.map_append,afR,List.map_append,List.map_cons,List.map_nil,atO,getD_of hv];rfl
    refine .mk (k) ([D.lit (.int .i64 z)]) (rfl) (at_inR hz) ?_;conv=>whnf
    conv=>whnf
    refine .mk (z.toNat) (v.D) (by rw[Int.toNat_of_nonneg z1]) (at_map hv) ?_;conv=>whnf
    conv=>whnf
    refine .mk (afR ((zs.take (k+1)).map fun i=>atO afO x i.toNat)) rfl es (by rw[afR,List.length_map,List.length_map,List.length_take];omega) ?_;conv=>whnf
    exact⟨k+1,Wk.go,hk',by omega⟩
   ·conv=>whnf
    have ek:k=zs.length:=by simp at g2;omega
    subst ek;rw[List.take_length,←hpk];refine Cn.lK [0,1,2,3] hcall ?_;conv=>whnf
    refine .mk (afR ((P c j).2++[(φ (P c j).1 (pick afO x n w c)).2])) rfl (by rw[afR,List.map_append];rfl) (by rw[afR,List.length_map,List.length_append];simp only[List.length_singleton];omega) ?_;conv=>whnf
    exact⟨j+1,by rw[hstep];exact Wk.go,hj',by omega⟩
  ·conv=>whnf
   have ej:j=W.length:=by simp at g1;omega
   subst ej;exact⟨c+1,by rw[hPe];exact Wk.go,hc',by omega⟩
 ·conv=>whnf
  have ec:c=C:=by simp at g0;omega
  subst ec;exact⟨_,_,⟨rfl,rfl⟩,WkV.of WkA.own,rfl,⟨⟨_,rfl,wke_refl _,rfl⟩,⟨_,rfl,wke_refl _,rfl⟩,⟨_,rfl,wke_refl _,rfl⟩,⟨_,rfl,wke_refl _,rfl⟩,trivial⟩,rfl⟩
theorem lw_poolM {l:Ly}{s:List Nat}{x us:List Af}{all:List (List Af)}{n0 kh kw st pad:Nat}(P:Nat→Nat→List Af×List Af)(φ:List Af→List Af→List Af×Af)(hp:pad=0)
  (h1:l.kh=kh) (h2:l.kw=kw) (h3:l.st=st) (h4:l.pad=pad) (hs:s.length=3) (ok:(winS s kh kw st pad).Ok) (hn:x.length=szS s)
  (hP0:P 0 0=(us,[])) (hPe:∀c,P (c+1) 0=P c (winS s kh kw st pad).all.length)
  (hPs:∀c j w,c<s.getD 0 0→(winS s kh kw st pad).all[j]? =some w→P c (j+1)=((φ (P c j).1 (pick afO x (kh*kw) w c)).1,(P c j).2++[(φ (P c j).1 (pick afO x (kh*kw) w c)).2]))
  (hPl:∀c j,(P c j).2.length≤c*(winS s kh kw st pad).all.length+j)
  (hF:∀c j w,c<s.getD 0 0→(winS s kh kw st pad).all[j]? =some w→LV Tryz.prog 64 [.a (.d (afsD (pick afO x (kh*kw) w c)))] (.agg (φ (P c j).1 (pick afO x (kh*kw) w c)).2.A)∧(φ (P c j).1 (pick afO x (kh*kw) w c)).1=(P c j).1):
  LX Tryz.prog 62 [.a (.ptr 0 0),.a (.fn (.func 64) [] [])] (lwH l s x all n0 us) fun v H=>v= .a (.d (afsD (P (s.getD 0 0) 0).2))∧H=lwH l s x all n0 (P (s.getD 0 0) 0).1:=by
 have hwin:=lw_windows (l:=l) (vs:=x) (us:=us) (all:=all) (n:=n0) h1 h2 h3 h4 hs ok;obtain⟨lk,lf,lo,lkh,lkw,lst,lpad,lws,lbs⟩:=l;simp only at h1 h2 h3 h4;subst h1 h2 h3 h4;have bd:=ok.bd;have hal:∀w∈(winS s kh kw st pad).all,w.length=s.getD 0 0*(kh*kw):=fun w h=>Wn.all_len h
 have hmb:∀w∈(winS s kh kw st pad).all,∀z∈w,0≤z∧z<(x.length:Int):=fun w h z hz=>by
  have:=Wn.mem_b h hz;rw[hn,len3 hs,szS3];exact⟨Wn.mem_nn hp ok h hz,this.2⟩
 have hc24:s.getD 0 0≤24:=bd.c;have hkk:kh*kw≤36:=ok.n.2;have hWl:(winS s kh kw st pad).all.length≤900:=by rw[Wn.all_ln];exact bd.p1
 have hk6:kh≤6∧kw≤6:=⟨ok.kh.2,ok.kw.2⟩;have hs0:s[0]? =some (s.getD 0 0):=by rw[len3 hs];rfl
 generalize (winS s kh kw st pad).all=W at *
 generalize hC:s.getD 0 0=C at *
 have ekk:IntKind.i64.wrap ((kh:Int)*(kw:Int))=((kh*kw:Nat):Int):=by rw[←Int.natCast_mul,wrN (by omega)]
 generalize hN:kh*kw=n at *
 refine LX_run (m:=4) (n0:=4) mix Tryz.func62 rfl rfl rfl rfl ?_;conv=>whnf
 refine Cn.lK [0,1,2,3] hwin ?_;conv=>whnf
 rw[ekk];refine .mk (by kernel_rfl) ?_;conv=>whnf
 refine .mk (0) ([D.lit (.int .i64 (C:Nat))]) (rfl) (at_nI hs0) ?_;conv=>whnf
 conv=>whnf
 refine .mk Nat (fun c=>⟨[(33,vl (.int .i64 (c:Nat))),(32,vl (.int .i64 (C:Nat))),(7,vl (.int .i64 (n:Nat))),(6,.a (.d (wnD W))),(1,.a (.fn (.func 64) [] [])),(5,.a (.own 4 4 (afR (P c 0).2))),(0,.a (.ptr 0 0))],
  (4,.arr 79 4 (afR (P c 0).2).length)::lwH ⟨lk,lf,lo,kh,kw,st,pad,lws,lbs⟩ s x all n0 (P c 0).1,5⟩) (fun c=>c≤C) (fun c=>C-c) 0
  (by rw[hP0];exact Wk.trans (Wk.own 5 4 79 4 rfl rfl (by decide)) Wk.go) (zL_ _) fun c hc=> ?_
 conv=>whnf
 refine bs (fun g0=> ?_) (fun g0=> ?_)
 ·conv=>whnf
  have hc':c<C:=by simpa using g0
  refine .mk Nat (fun j=>⟨[(38,vl (.int .i64 (j:Nat))),(37,vl (.int .i64 (wnR W).length)),(36,.a (.d (wnD W))),(8,vl (.int .i64 (c:Nat))),(33,vl (.int .i64 (c:Nat))),(32,vl (.int .i64 (C:Nat))),(7,vl (.int .i64 (n:Nat))),(6,.a (.d (wnD W))),(1,.a (.fn (.func 64) [] [])),(5,.a (.own 4 4 (afR (P c j).2))),(0,.a (.ptr 0 0))],
   (4,.arr 79 4 (afR (P c j).2).length)::lwH ⟨lk,lf,lo,kh,kw,st,pad,lws,lbs⟩ s x all n0 (P c j).1,5⟩) (fun j=>j≤W.length) (fun j=>W.length-j) 0
   Wk.go (zL_ _) fun j hj=> ?_
  conv=>whnf
  refine bs (fun g1=> ?_) (fun g1=> ?_)
  ·conv=>whnf
   have hj':j<W.length:=by simpa using g1
   obtain⟨w,hw'⟩:=at_some hj';have hwm:=mG_ hw';have hwlen:=hal w hwm;have b0:(c+1)*n≤C*n:=Nat.mul_le_mul_right _ hc';have b1:c*n≤(c+1)*n:=Nat.mul_le_mul_right _ (by omega);have b2:C*n≤24*36:=Nat.mul_le_mul hc24 hkk;have e1:IntKind.i64.wrap ((c:Int)*(n:Int))=((c*n:Nat):Int):=by rw[←Int.natCast_mul,wrN (by omega)]
   have e2:IntKind.i64.wrap ((c:Int)+1)=((c+1:Nat):Int):=by rw[wr64 (by omega) (by omega)];omega
   have e3:IntKind.i64.wrap (((c+1:Nat):Int)*(n:Int))=(((c+1)*n:Nat):Int):=by rw[←Int.natCast_mul,wrN (by omega)]
   have hcall:=hF c j w hc' hw';have hstep:=hPs c j w hc' hw';have hln:=hPl c j;have hq:c*W.length≤24*900:=Nat.mul_le_mul (by omega) hWl;obtain⟨zs,hzs⟩:∃zs,zs=(w.take ((c+1)*n)).drop (c*n):=⟨_,rfl⟩;have hzl:zs.length≤900:=by rw[hzs,List.length_drop,List.length_take];omega
   have hzm:∀z∈zs,0≤z∧z<(x.length:Int):=fun z hz=>hmb w hwm z (List.mem_of_mem_take (List.mem_of_mem_drop (hzs▸hz)));have hpk:pick afO x n w c=zs.map fun i=>atO afO x i.toNat:=by rw[hzs];rfl
   refine .mk (j) ([inD w]) (rfl) (at_wn hw') ?_;conv=>whnf
   conv=>whnf
   rw[e1,e2,e3];refine .mk (c*n) ((c+1)*n) (inR zs) rfl rfl (by omega) (by rw[List.length_map];omega) (by rw[hzs,inR,inR,List.map_drop,List.map_take]) ?_;conv=>whnf
   refine .mk Nat (fun k=>⟨[(52,vl (.int .i64 (k:Nat))),(51,vl (.int .i64 (inR zs).length)),(50,.a (.d (inD zs))),(11,.a (.own 5 4 (afR ((zs.take k).map fun i=>atO afO x i.toNat)))),(38,vl (.int .i64 (j:Nat))),(37,vl (.int .i64 (wnR W).length)),(36,.a (.d (wnD W))),(8,vl (.int .i64 (c:Nat))),(33,vl (.int .i64 (c:Nat))),(32,vl (.int .i64 (C:Nat))),(7,vl (.int .i64 (n:Nat))),(6,.a (.d (wnD W))),(1,.a (.fn (.func 64) [] [])),(5,.a (.own 4 4 (afR (P c j).2))),(0,.a (.ptr 0 0))],
    (5,.arr 79 4 (afR ((zs.take k).map fun i=>atO afO x i.toNat)).length)::(4,.arr 79 4 (afR (P c j).2).length)::lwH ⟨lk,lf,lo,kh,kw,st,pad,lws,lbs⟩ s x all n0 (P c j).1,6⟩) (fun k=>k≤zs.length) (fun k=>zs.length-k) 0
    (Wk.trans (Wk.own 11 5 79 4 rfl rfl (by decide)) Wk.go) (zL_ _) fun k hk=> ?_
   conv=>whnf
   refine bs (fun g2=> ?_) (fun g2=> ?_)
   ·conv=>whnf
    have hk':k<zs.length:=by simpa using g2
    obtain⟨z,hz⟩:=at_some hk';obtain⟨z1,z2⟩:=hzm z (mG_ hz);obtain⟨v,hv⟩:=at_some (l:=x) (i:=z.toNat) (by omega);have es:afR ((zs.take (k+1)).map fun i=>atO afO x i.toNat)=afR ((zs.take k).map fun i=>atO afO x i.toNat)++[v.D]:=by
     rw[take_snoc hz,List.map_append,afR,List.map_append,List.map_cons,List.map_nil,atO,getD_of hv];rfl
    refine .mk (k) ([D.lit (.int .i64 z)]) (rfl) (at_inR hz) ?_;conv=>whnf
    conv=>whnf
    refine .mk (z.toNat) (v.D) (by rw[Int.toNat_of_nonneg z1]) (at_map hv) ?_;conv=>whnf
    conv=>whnf
    refine .mk (afR ((zs.take (k+1)).map fun i=>atO afO x i.toNat)) rfl es (by rw[afR,List.length_map,List.length_map,List.length_take];omega) ?_;conv=>whnf
    exact⟨k+1,Wk.go,hk',by omega⟩
   ·conv=>whnf
    have ek:k=zs.length:=by simp at g2;omega
    subst ek;rw[List.take_length,←hpk];refine Cn.c hcall.1 ?_;conv=>whnf
    refine .mk (afR ((P c j).2++[(φ (P c j).1 (pick afO x n w c)).2])) rfl (by rw[afR,List.map_append];rfl) (by rw[afR,List.length_map,List.length_append];simp only[List.length_singleton];omega) ?_;conv=>whnf
    exact⟨j+1,by rw[hstep,hcall.2];exact Wk.go,hj',by omega⟩
  ·conv=>whnf
   have ej:j=W.length:=by simp at g1;omega
   subst ej;exact⟨c+1,by rw[hPe];exact Wk.go,hc',by omega⟩
 ·conv=>whnf
  have ec:c=C:=by simp at g0;omega
  subst ec;exact⟨_,_,⟨rfl,rfl⟩,WkV.of WkA.own,rfl,⟨⟨_,rfl,wke_refl _,rfl⟩,⟨_,rfl,wke_refl _,rfl⟩,⟨_,rfl,wke_refl _,rfl⟩,⟨_,rfl,wke_refl _,rfl⟩,trivial⟩,rfl⟩
structure LoH (L e E n:Nat)(lay:Lay)(s:List Nat)(us:List Af)(all:List (List Af))(x:List Af):Prop where
 lo:LvO L lay
 e1:1≤e
 eE:e+40≤E
 E9:E≤900
 s24:szS s≤24
 o24:szS (outS lay s)≤24
 fit:∃i ss,Fit lay i ss s
 xl:x.length=szS s
 uo:UsOk L E n us
 xf:∀f∈x,FLv L e e ((n+us.length:Nat):Int) f
 af:∀y∈all,∀f∈y,FLv L e e ((n+us.length:Nat):Int) f
 add:∀fr,lay= .add fr→ -1≤fr∧(fr+1).toNat<all.length∧(all.getD (fr+1).toNat []).length=x.length
 n24:n≤24
 ul:us.length≤20
theorem sum_le {α:Type}(f:α→Nat)(k:Nat):∀(l:List α),(∀a∈l,f a≤k)→(l.map f).sum≤l.length*k
 |[],_=>by simp
 |a::l,h=>by
  have:=sum_le f k l fun b hb=>h b (List.mem_cons_of_mem _ hb);have:=h a List.mem_cons_self;rw[List.map_cons,List.sum_cons,List.length_cons,Nat.add_mul];omega
theorem lw_relu {ly:Ly}{s:List Nat}{us x:List Af}{all:List (List Af)}{n:Nat}(hk:ly.kind=5)(hn:n≤24)(hu:us.length≤20)(hx:x.length≤24):
  LX Tryz.prog 31 [.a (.ptr 0 0)] (lwH ly s x all n us) fun v H=>v= .a (.d (afsD ((List.range x.length).map fun j=>varS ((n+(us.length+j):Nat):Int))))∧H=lwH ly s x all n (us++x):=by
 obtain⟨lk,lf,lo,lkh,lkw,lst,lpad,lws,lbs⟩:=ly;simp only at hk;subst hk;refine LX_run (m:=4) (n0:=4) mix Tryz.func31 rfl rfl rfl rfl ?_;conv=>whnf
 refine .mk Nat (fun i=>⟨[(38,vl (.int .i64 (i:Nat))),(37,vl (.int .i64 (x.map Af.D).length)),(36,.a (.d (afsD x))),(3,.a (.own 4 4 (afR ((List.range i).map fun j=>varS ((n+(us.length+j):Nat):Int))))),(0,.a (.ptr 0 0))],
  (4,.arr 79 4 (afR ((List.range i).map fun j=>varS ((n+(us.length+j):Nat):Int))).length)::lwH ⟨5,lf,lo,lkh,lkw,lst,lpad,lws,lbs⟩ s x all n (us++x.take i),5⟩) (fun i=>i≤x.length) (fun i=>x.length-i) 0
  (by rw[List.take_zero,List.append_nil];exact Wk.trans (Wk.own 3 4 79 4 rfl rfl (by decide)) Wk.go) (zL_ _) fun i hi=> ?_
 conv=>whnf
 refine bs (fun g0=> ?_) (fun g0=> ?_)
 ·conv=>whnf
  have hi':i<x.length:=by simpa using g0
  obtain⟨f,hf⟩:=at_some hi';have cU:=lx_unit1 (f:=f) (us:=us++x.take i) (n:=n) (by omega) (by simp;omega);have el:(us++x.take i).length=us.length+i:=by rw[List.length_append,List.length_take];omega
  have eu:us++x.take i++[f]=us++x.take (i+1):=by rw[take_snoc hf,List.append_assoc]
  rw[el,eu]at cU;refine .mk (i) (f.D) (rfl) (at_map hf) ?_;conv=>whnf
  conv=>whnf
  refine Cn.lK [1,2] cU ?_;conv=>whnf
  refine .mk (afR ((List.range (i+1)).map fun j=>varS ((n+(us.length+j):Nat):Int))) rfl (by rw[range_map_snoc,afR,List.map_append];rfl) (by simp;omega) ?_;conv=>whnf
  refine .mk (by kernel_rfl) ?_;conv=>whnf
  exact⟨i+1,Wk.go,hi',by omega⟩
 ·conv=>whnf
  have ei:i=x.length:=by simp at g0;omega
  subst ei;rw[List.take_length];exact⟨_,_,⟨rfl,rfl⟩,WkV.of WkA.own,rfl,⟨⟨_,rfl,wke_refl _,rfl⟩,⟨_,rfl,wke_refl _,rfl⟩,⟨_,rfl,wke_refl _,rfl⟩,⟨_,rfl,wke_refl _,rfl⟩,trivial⟩,rfl⟩
theorem at_al {all:List (List Af)}{i:Nat}{y:List Af}(h:all[i]? =some y):(alR all)[i]? =some [afsD y]:=at_map (f:=fun y=>[afsD y]) h
theorem lw_add {ly:Ly}{s:List Nat}{us x y:List Af}{all:List (List Af)}{L e n:Nat}{N:Int}(hk:ly.kind=7)(hL:LOk L)(he:e≤1000)(h0:0≤N)(hN:N≤100000)(hx:Fl L e N x)(hy:Fl L e N y)(h1: -1≤ly.fr)(h2:all[(ly.fr+1).toNat]? =some y)(hl:y.length=x.length)(hxl:x.length≤24)(hal:all.length≤100):
  LX Tryz.prog 31 [.a (.ptr 0 0)] (lwH ly s x all n us) fun v H=>v= .a (.d (afsD (addG afO x y)))∧H=lwH ly s x all n us:=by
 have hlt:=at_lt h2;obtain⟨lk,lf,lo,lkh,lkw,lst,lpad,lws,lbs⟩:=ly;simp only at hk h1 h2 hlt;subst hk;have ew:IntKind.i64.wrap (lf+1)=(((lf+1).toNat:Nat):Int):=by rw[Int.toNat_of_nonneg (by omega),wr64 (by omega) (by omega)]
 refine LX_run (m:=4) (n0:=4) mix Tryz.func31 rfl rfl rfl rfl ?_;conv=>whnf
 refine .mk ((lf+1).toNat) ([afsD y]) (ew) (at_al h2) ?_;conv=>whnf
 conv=>whnf
 refine .mk (by kernel_rfl) ?_;conv=>whnf
 refine .mk Nat (fun i=>⟨[(68,vl (.int .i64 (i:Nat))),(67,vl (.int .i64 (y.map Af.D).length)),(66,.a (.d (afsD y))),(3,.a (.own 4 4 (afR ((List.range i).map fun i=>afO.add (atO afO x i) (atO afO y i))))),(0,.a (.ptr 0 0))],
  (4,.arr 79 4 (afR ((List.range i).map fun i=>afO.add (atO afO x i) (atO afO y i))).length)::lwH ⟨7,lf,lo,lkh,lkw,lst,lpad,lws,lbs⟩ s x all n us,5⟩) (fun i=>i≤y.length) (fun i=>y.length-i) 0
  (Wk.trans (Wk.own 3 4 79 4 rfl rfl (by decide)) Wk.go) (zL_ _) fun i hi=> ?_
 conv=>whnf
 refine bs (fun g0=> ?_) (fun g0=> ?_)
 ·conv=>whnf
  have hi':i<y.length:=by simpa using g0
  obtain⟨g,hg⟩:=at_some hi';obtain⟨f,hf⟩:=at_some (l:=x) (i:=i) (by omega);have c2:=pl_add ((hx.at hf).fb (m:=e) hL (by omega) (by omega)) ((hy.at hg).fb (m:=e) hL (by omega) (by omega)) h0 hN (by omega);have es:afR ((List.range (i+1)).map fun i=>afO.add (atO afO x i) (atO afO y i))=afR ((List.range i).map fun i=>afO.add (atO afO x i) (atO afO y i))++[(addS f g).D]:=by
   rw[range_map_snoc,afR,List.map_append,List.map_cons,List.map_nil,atO,atO,getD_of hf,getD_of hg];rfl
  refine .mk (i) (g.D) (rfl) (at_map hg) ?_;conv=>whnf
  conv=>whnf
  refine .mk (i) (f.D) (rfl) (at_map hf) ?_;conv=>whnf
  conv=>whnf
  refine .c (c2) ?_;conv=>whnf
  refine .mk (afR ((List.range (i+1)).map fun i=>afO.add (atO afO x i) (atO afO y i))) rfl es (by simp;omega) ?_;conv=>whnf
  refine .mk (by kernel_rfl) ?_;conv=>whnf
  exact⟨i+1,Wk.go,hi',by omega⟩
 ·conv=>whnf
  have ei:i=x.length:=by simp at g0;omega
  subst ei;exact⟨_,_,⟨rfl,rfl⟩,WkV.of WkA.own,rfl,⟨⟨_,rfl,wke_refl _,rfl⟩,⟨_,rfl,wke_refl _,rfl⟩,⟨_,rfl,wke_refl _,rfl⟩,⟨_,rfl,wke_refl _,rfl⟩,trivial⟩,rfl⟩
theorem lw_out {L e E n:Nat}{lay:Lay}{s:List Nat}{us x:List Af}{all:List (List Af)}(h:LoH L e E n lay s us all x)(hal:all.length≤100):
  LX Tryz.prog 31 [.a (.ptr 0 0)] (lwH (Lay.ly lay) s x all n us) fun v H=>v= .a (.d (afsD (lowL lay s n us all x).2))∧H=lwH (Lay.ly lay) s x all n (lowL lay s n us all x).1:=by
 obtain⟨lo,he,hE,h9,hs,ho,⟨i,ss,hf⟩,hxl,hu,hx,ha,hadd,hn,hul⟩:=h;have hL:=lo.ok
 cases lay with
 |dense ws bs=>
  have hb:bs.length≤24:=by simpa [outS,szS1]using ho
  have c:=lw_dense (l:=Lay.ly (.dense ws bs)) (s:=s) (all:=all) (us:=us) (n:=n) hL (by omega) (by omega) (by omega) hx (fun q hq=>lo.par q (List.mem_append_left _ hq)) (fun q hq=>lo.par q (List.mem_append_right _ hq)) (by omega) hb (by rw[hxl];exact hf.2);refine LX_run (m:=4) (n0:=4) mix Tryz.func31 rfl rfl rfl rfl ?_;conv=>whnf
  refine Cn.lK [0,1,2,3] c ?_;conv=>whnf
  exact⟨_,_,⟨rfl,rfl⟩,vR_ _,rfl,⟨⟨_,rfl,wke_refl _,rfl⟩,⟨_,rfl,wke_refl _,rfl⟩,⟨_,rfl,wke_refl _,rfl⟩,⟨_,rfl,wke_refl _,rfl⟩,trivial⟩,rfl⟩
 |conv kh kw st pad ws bs=>
  have hb:bs.length≤24:=by
   have bd:=hf.1.bd;simp only[outS,szS3]at ho;exact tL_ (tL_ (Nat.le_mul_of_pos_right _ bd.r1) (Nat.le_mul_of_pos_right _ bd.q1)) ho
  have c:=lw_conv (l:=Lay.ly (.conv kh kw st pad ws bs)) (s:=s) (all:=all) (us:=us) (n:=n) hL (by omega) (by omega) (by omega) hx (fun q hq=>lo.par q (List.mem_append_left _ hq)) (fun q hq=>lo.par q (List.mem_append_right _ hq)) hb rfl rfl rfl rfl hf.2.1 hf.1 hxl hf.2.2.2;refine LX_run (m:=4) (n0:=4) mix Tryz.func31 rfl rfl rfl rfl ?_;conv=>whnf
  refine Cn.lK [0,1,2,3] c ?_;conv=>whnf
  exact⟨_,_,⟨rfl,rfl⟩,vR_ _,rfl,⟨⟨_,rfl,wke_refl _,rfl⟩,⟨_,rfl,wke_refl _,rfl⟩,⟨_,rfl,wke_refl _,rfl⟩,⟨_,rfl,wke_refl _,rfl⟩,trivial⟩,rfl⟩
 |mx kh kw st=>
  have b1:1≤kh*kw:=hf.1.n.1;have b2:kh*kw≤36:=hf.1.n.2
  have hpl:∀y∈picks afO (winS s kh kw st 0).all (s.getD 0 0) (kh*kw) x,y.length=kh*kw∧∀f∈y,FLv L e e ((n+us.length:Nat):Int) f:=fun y hy=>by
   obtain⟨ch,w,h1,h2,rfl⟩:=picks_mem hy;exact⟨pick_ln (Wn.all_len h2) h1,fl_pick hx⟩
  have hpn:(picks afO (winS s kh kw st 0).all (s.getD 0 0) (kh*kw) x).length≤24:=by
   rw[picks_ln,Wn.all_ln];simp only[outS,szS3]at ho;rw[←Nat.mul_assoc];exact ho
  have c:=lw_poolX (l:=Lay.ly (.mx kh kw st)) (s:=s) (x:=x) (us:=us) (all:=all) (n0:=n) (fun c j=>fsG (fun us l=>mxF n l.length us l) us (pkF (winS s kh kw st 0).all (kh*kw) x c j)) (fun us l=>mxF n l.length us l) rfl rfl rfl rfl rfl hf.2 hf.1 hxl
   rfl (fun c=>by rw[pkF_end]) (fun c j w _ hw=>by rw[pkF_snoc _ _ _ _ _ hw,fsG_snoc]) (fun c j=>by rw[fsG_len];exact pkF_len _ _ _ _ _)
   fun c j w hc hw=>by
    obtain⟨r,hr⟩:=pk_split (winS s kh kw st 0).all (kh*kw) x hc hw;have hmem:∀y∈pkF (winS s kh kw st 0).all (kh*kw) x c j,y∈picks afO (winS s kh kw st 0).all (s.getD 0 0) (kh*kw) x:=fun y hy=>by rw[←hr];exact List.mem_append_left _ hy
    have hl:=hpl (pick afO x (kh*kw) w c) (by rw[←hr];exact List.mem_append_right _ List.mem_cons_self);have hpk:(pkF (winS s kh kw st 0).all (kh*kw) x c j).length+1≤24:=by
     rw[←hr,List.length_append,List.length_cons]at hpn;omega
    obtain⟨⟨ex,k1⟩,k2,k3,_,_,_⟩:=mxs_ok hL he (K:=36) (E:=E) (by omega) (pkF (winS s kh kw st 0).all (kh*kw) x c j) us (fun y hy=>by rw[(hpl y (hmem y hy)).1];omega) hu (fun y hy=>(hpl y (hmem y hy)).2)
    have k4:=sum_le (fun l:List Af=>l.length-1) 35 (pkF (winS s kh kw st 0).all (kh*kw) x c j) fun y hy=>by
     have:=(hpl y (hmem y hy)).1;show y.length-1≤35;omega
    simp only[fsG_mxs];exact lw_max hL (by omega) (by omega) _ e _ _ he (by omega) (by omega) (by omega) (by omega) k3 fun f hf=>(hl.2 f hf).up hL (lR_ _) (by rw[k1,List.length_append];omega)
  simp only[fsG_mxs,pkF_all]at c;refine LX_run (m:=4) (n0:=4) mix Tryz.func31 rfl rfl rfl rfl ?_;conv=>whnf
  refine Cn.lK [0,1,2,3] c ?_;conv=>whnf
  exact⟨_,_,⟨rfl,rfl⟩,vR_ _,rfl,⟨⟨_,rfl,wke_refl _,rfl⟩,⟨_,rfl,wke_refl _,rfl⟩,⟨_,rfl,wke_refl _,rfl⟩,⟨_,rfl,wke_refl _,rfl⟩,trivial⟩,rfl⟩
 |av kh kw st=>
  have b1:1≤kh*kw:=hf.1.n.1;have b2:kh*kw≤36:=hf.1.n.2;have c:=lw_poolM (l:=Lay.ly (.av kh kw st)) (s:=s) (x:=x) (us:=us) (all:=all) (n0:=n) (fun c j=>fsG (fun us l=>(us,meanG afO l)) us (pkF (winS s kh kw st 0).all (kh*kw) x c j)) (fun us l=>(us,meanG afO l)) rfl rfl rfl rfl rfl hf.2 hf.1 hxl
   rfl (fun c=>by rw[pkF_end]) (fun c j w _ hw=>by rw[pkF_snoc _ _ _ _ _ hw,fsG_snoc]) (fun c j=>by rw[fsG_len];exact pkF_len _ _ _ _ _)
   fun c j w hc hw=>⟨by
    have hwl:=Wn.all_len (mG_ hw);have hpl:(pick afO x (kh*kw) w c).length=kh*kw:=pick_ln hwl hc;exact lx_lmean (n:=((n+us.length:Nat):Int)) hL (by omega) (fl_pick hx) (by omega) (by omega) (by omega) (by omega) (by rw[hpl];exact lo.inv _ b2),rfl⟩
  simp only[fsG_mean,pkF_all]at c;refine LX_run (m:=4) (n0:=4) mix Tryz.func31 rfl rfl rfl rfl ?_;conv=>whnf
  refine Cn.lK [0,1,2,3] c ?_;conv=>whnf
  exact⟨_,_,⟨rfl,rfl⟩,vR_ _,rfl,⟨⟨_,rfl,wke_refl _,rfl⟩,⟨_,rfl,wke_refl _,rfl⟩,⟨_,rfl,wke_refl _,rfl⟩,⟨_,rfl,wke_refl _,rfl⟩,trivial⟩,rfl⟩
 |relu=>exact lw_relu rfl hn hul (by omega)
 |flat=>
  refine LX_run (m:=4) (n0:=4) mix Tryz.func31 rfl rfl rfl rfl ?_;conv=>whnf
  exact⟨_,_,⟨rfl,rfl⟩,vR_ _,rfl,⟨⟨_,rfl,wke_refl _,rfl⟩,⟨_,rfl,wke_refl _,rfl⟩,⟨_,rfl,wke_refl _,rfl⟩,⟨_,rfl,wke_refl _,rfl⟩,trivial⟩,rfl⟩
 |add fr=>
  obtain⟨a1,a2,a3⟩:=hadd fr rfl;obtain⟨y,hy⟩:=at_some a2;have ey:all.getD (fr+1).toNat []=y:=getD_of hy;rw[ey]at a3;have c:=lw_add (ly:=Lay.ly (.add fr)) (s:=s) (us:=us) (n:=n) rfl hL (by omega) (by omega) (by omega) hx (ha y (mG_ hy)) a1 hy a3 (by omega) hal;rw[←ey]at c;exact c
theorem un_mono (m:Mo)(i:Nat):m.un i≤m.un (i+1):=by rw[Mo.un];omega
theorem un_le (m:Mo){i j:Nat}(h:i≤j):m.un i≤m.un j:=by
 induction j with
 |zero=>rw[show i=0 by omega];exact lR_ _
 |succ j ih=>
  rcases Nat.lt_or_ge i (j+1)with h1|h1
  ·exact tL_ (ih (by omega)) (un_mono m j)
  ·rw[show i=j+1 by omega];exact lR_ _
theorem at_shT (m:Mo){i n:Nat}(h:i<n):(ssR (m.shT n))[i]? =some [shD (m.sh (i+1))]:=at_ss (by rw[List.getElem?_map,List.getElem?_range h];rfl)
theorem lx_lcount {m:Mo}(h:MoOk m):LV Tryz.prog 28 [.a (.d (lysD m.ls)),.a (.d (ssD (m.shT m.ls.length)))] (vl (.int .i64 (m.un m.ls.length:Nat))):=by
 have hn:=h.n;have hu:=h.un;refine LX_run (m:=0) (n0:=0) mix Tryz.func28 rfl rfl rfl rfl ?_;conv=>whnf
 refine .mk Nat (fun i=>⟨[(10,vl (.int .i64 (i:Nat))),(9,vl (.int .i64 (lyR m.ls).length)),(8,.a (.d (lysD m.ls))),(5,vl (.int .i64 (m.un i:Nat))),(1,.a (.d (ssD (m.shT m.ls.length))))],[],0⟩) (fun i=>i≤m.ls.length) (fun i=>m.ls.length-i) 0 Wk.go (zL_ _) fun i hi=> ?_;conv=>whnf
 refine bs (fun g0=> ?_) (fun g0=> ?_)
 ·conv=>whnf
  have hi':i<m.ls.length:=by simpa using g0
  obtain⟨l,hl⟩:=at_some hi';have el:m.lay i=l:=getD_of hl;have hz:=lx_tsize (h.sh (i+1) (by omega)).g;have hun:=un_le m (show i+1≤m.ls.length from hi');have hat:=at_shT m hi';have e1:m.un (i+1)=m.un i+unS l (m.sh i):=by rw[Mo.un,el]
  have e2:m.sh (i+1)=outS l (m.sh i):=by rw[Mo.sh,el]
  have hf:=h.fit i hi';rw[el]at hf;refine .mk (i) ((Lay.ly l).D) (rfl) (at_ly hl) ?_;conv=>whnf
  conv=>whnf
  cases l with
  |relu=>
   conv=>whnf
   refine .mk (i) ([shD (m.sh (i+1))]) (rfl) (hat) ?_;conv=>whnf
   conv=>whnf
   refine .c (hz) ?_;conv=>whnf
   have e3:m.un (i+1)=m.un i+szS (m.sh (i+1)):=by rw[e1,e2];rfl
   have ew:IntKind.i64.wrap ((m.un i:Int)+(szS (m.sh (i+1)):Int))=(m.un (i+1):Int):=by
    rw[e3,←Int.natCast_add,wrN (by omega)]
   rw[ew];exact⟨i+1,Wk.go,hi',by omega⟩
  |mx kh kw st=>
   have hkk:1≤kh*kw∧kh*kw≤36:=hf.1.n;have hk6:=hf.1.kh;have hk7:=hf.1.kw;simp only[winS]at hk6 hk7;have e3:m.un (i+1)=m.un i+(kh*kw-1)*szS (m.sh (i+1)):=by rw[e1,e2];rfl
   have ew:IntKind.i64.wrap ((m.un i:Int)+IntKind.i64.wrap (IntKind.i64.wrap (IntKind.i64.wrap ((kh:Int)*(kw:Int))-1)*(szS (m.sh (i+1)):Int)))=(m.un (i+1):Int):=by
    have a1:IntKind.i64.wrap ((kh:Int)*(kw:Int))=((kh*kw:Nat):Int):=by rw[←Int.natCast_mul,wrN (by omega)]
    have a2:IntKind.i64.wrap (((kh*kw:Nat):Int)-1)=((kh*kw-1:Nat):Int):=by rw[wr64 (by omega) (by omega)];omega
    have a3:IntKind.i64.wrap (((kh*kw-1:Nat):Int)*(szS (m.sh (i+1)):Int))=(((kh*kw-1)*szS (m.sh (i+1)):Nat):Int):=by rw[←Int.natCast_mul,wrN (by omega)]
    rw[a1,a2,a3,e3,←Int.natCast_add,wrN (by omega)]
   conv=>whnf
   refine .mk (i) ([shD (m.sh (i+1))]) (rfl) (hat) ?_;conv=>whnf
   conv=>whnf
   refine .c (hz) ?_;conv=>whnf
   refine .mk (by kernel_rfl) ?_;conv=>whnf
   rw[show(Lay.ly (.mx kh kw st)).kh=kh from rfl,show(Lay.ly (.mx kh kw st)).kw=kw from rfl,ew];exact⟨i+1,Wk.go,hi',by omega⟩
  |_=>
   have e3:m.un (i+1)=m.un i:=e1;conv=>whnf
   exact⟨i+1,by rw[e3];exact Wk.go,hi',by omega⟩
 ·conv=>whnf
  have e:i=m.ls.length:=by have:¬i<m.ls.length:=by simpa using g0
                           omega
  rw[e];exact .q ⟨rfl,rfl⟩
abbrev lwC (l:Ly)(s:List Nat)(vs:List Af)(k:Nat)(all:List (List Af)):List A:=[.d (.lit (.int .i64 l.kind)),.d (.lit (.int .i64 l.fr)),.d (.lit (.int .i64 l.out)),.d (.lit (.int .i64 l.kh)),.d (.lit (.int .i64 l.kw)),.d (.lit (.int .i64 l.st)),.d (.lit (.int .i64 l.pad)),.d (rqsD l.ws),.d (rqsD l.bs),.d (shD s),.d (afsD vs),.own k 1 (alR all),.fn (.func 29) [] [.ptr 2 0]]
abbrev lwZ (s:List Nat)(vs:A):List A:=[.d (.lit (.int .i64 0)),.d (.lit (.int .i64 0)),.d (.lit (.int .i64 0)),.d (.lit (.int .i64 0)),.d (.lit (.int .i64 0)),.d (.lit (.int .i64 0)),.d (.lit (.int .i64 0)),.d (.lit (.slice none 0 0)),.d (.lit (.slice none 0 0)),.d (shD s),vs,.d (.lit (.slice none 0 0)),.fn (.func 29) [] [.ptr 2 0]]
abbrev vsI (i:Nat):List Af:=(List.range i).map fun(i:Nat)=>varS (i:Int)
theorem MoOk.loh {m:Mo}(h:MoOk m){i:Nat}(hi:i<m.ls.length):LoH m.L (1+40*i) 241 m.n (m.lay i) (m.sh i) (m.lw i).1 (m.lw i).2 ((m.lw i).2.getD i []):=by
 obtain⟨h1,h2,h3,h4,h5,h6⟩:=Mo.lw_ok h i (by omega);have hn:=h.n;have hmem:∀f∈(m.lw i).2.getD i [],FLv m.L (1+40*i) (1+40*i) ((m.n+(m.lw i).1.length:Nat):Int) f:=by
  rw[List.getD_eq_getElem?_getD,List.getElem?_eq_getElem (by omega)];exact h5 _ (List.getElem_mem _)
 refine⟨h.lv hi,by omega,by omega,by omega,(h.sh i (by omega)).sz,(h.sh (i+1) (by omega)).sz,⟨_,_,h.fit i hi⟩,h3 i (lR_ _),h4,hmem,h5,fun fr hfr=> ?_,(h.sh 0 (zL_ _)).sz,by rw[h2];exact tL_ (un_le m (by omega)) h.un⟩;have hf:=h.fit i hi;rw[hfr]at hf;obtain⟨f1,f2,f3⟩:=hf;refine⟨f1,by rw[h1];omega,?_⟩;rw[h3 _ (by omega),h3 i (lR_ _)];rw[Mo.shs,List.getD_eq_getElem?_getD,List.getElem?_map,List.getElem?_range (by omega)]at f3;exact congrArg szS f3
theorem lx_lower {m:Mo}(h:MoOk m):LV Tryz.prog 9 [.agg m.A] (.tup [.g (Gr.A ⟨(m.n:Nat),m.us,m.os⟩),.s (.d (.lit (.int .i64 0)))]):=by
 have hn6:=h.n;have hun:=h.un;have hs0:=h.sh 0 (zL_ _);have hsn:=h.sh m.ls.length (lR_ _);have z0:=lx_tsize hs0.g;have zn:=lx_tsize hsn.g;have hn24:m.n≤24:=hs0.sz;have hz0:szS (m.sh 0)≤24:=hs0.sz;have hzn:=hsn.sz;refine LX_run (m:=0) (n0:=0) mix Tryz.func9 rfl rfl rfl rfl ?_;conv=>whnf
 refine .c (lx_sof h) ?_;conv=>whnf
 refine bs (fun g0=> ?_) (fun g0=> ?_)<;>conv=>whnf
 have hpos:0<m.ls.length:=by simpa using g0
 obtain⟨k,hk⟩:∃k,m.ls.length=k+1:=⟨m.ls.length-1,by omega⟩;refine .mk (k) ([shD (m.sh m.ls.length)]) (by rw[List.length_map,List.length_map,List.length_range,hk,wr64 (by omega) (by omega)];omega) (by rw[hk];exact at_shT m (by omega)) ?_;conv=>whnf
 conv=>whnf
 all_goals
  refine .c (z0) ?_;conv=>whnf
  refine bF (decide_eq_false (by omega)) ?_;conv=>whnf
  refine .c (lx_lcount h) ?_;conv=>whnf
  refine bF (decide_eq_false (by omega)) ?_;conv=>whnf
  first|refine .c zn ?_|refine .c z0 ?_
  conv=>whnf
  refine bF (decide_eq_false (by omega)) ?_;conv=>whnf
  refine .c (z0) ?_;conv=>whnf
  refine .mk Nat (fun i=>⟨[(65,vl (.int .i64 (i:Nat))),(64,vl (.int .i64 (m.n:Nat))),(9,.a (.ptr 3 0)),(8,.a (.ptr 2 0)),(4,.a (.d (ssD (m.shT m.ls.length)))),(2,.a (.ptr 1 0)),(1,.a (.ptr 0 0))],
   [(0,.box 25 m.A),(2,.box 36 [.d (.lit (.int .i64 (m.n:Nat))),.d (.lit (.slice none 0 0)),.d (.lit (.slice none 0 0))]),(3,.box 76 (lwZ m.inp (.own 4 4 (afR (vsI i))))),(4,.arr 79 4 (afR (vsI i)).length),(1,.box 36 [.d (.lit (.int .i64 0)),.d (.lit (.slice none 0 0)),.d (.lit (.slice none 0 0))])],5⟩) (fun i=>i≤m.n) (fun i=>m.n-i) 0
   (Wk.trans (Wk.ownB 3 4 10 79 4 rfl rfl rfl) Wk.go) (zL_ _) fun i hi=> ?_
  conv=>whnf
  refine bs (fun g1=> ?_) (fun g1=> ?_)
  ·conv=>whnf
   have hi':i<m.n:=by have:=of_decide_eq_true g1;omega
   refine .c (lx_lvar) ?_;conv=>whnf
   refine .mk (afR (vsI (i+1))) rfl (by rw[vsI,range_map_snoc,afR,List.map_append];rfl) (by simp;omega) ?_;conv=>whnf
   refine .mk (by kernel_rfl) ?_;conv=>whnf
   exact⟨i+1,Wk.go,hi',by omega⟩
  ·conv=>whnf
   have ei:i=m.n:=by have:=of_decide_eq_false g1;omega
   subst ei
   refine .mk Nat (fun i=>⟨[(91,vl (.int .i64 (i:Nat))),(90,vl (.int .i64 (lyR m.ls).length)),(89,.a (.d (lysD m.ls))),(9,.a (.ptr 3 0)),(8,.a (.ptr 2 0)),(4,.a (.d (ssD (m.shT m.ls.length)))),(2,.a (.ptr 1 0)),(1,.a (.ptr 0 0))],
    [(0,.box 25 m.A),(2,.box 36 (gUs (m.n:Nat) 6 (m.lw i).1)),(3,.box 76 (lwC (m.lyP i) (m.sh i) ((m.lw i).2.getD i []) 5 (m.lw i).2)),(5,.arr 34 1 (alR (m.lw i).2).length),(6,.arr 79 4 ((m.lw i).1.map Af.D).length),(1,.box 36 [.d (.lit (.int .i64 0)),.d (.lit (.slice none 0 0)),.d (.lit (.slice none 0 0))])],7⟩) (fun i=>i≤m.ls.length) (fun i=>m.ls.length-i) 0
    (Wk.trans (Wk.ownB 2 6 1 79 4 rfl rfl rfl) (Wk.go (h2:=⟨⟨_,rfl,wke_refl _,rfl⟩,⟨_,rfl,wke_refl _,rfl⟩,⟨_,rfl,⟨_,rfl,aR_ _,aR_ _,aR_ _,aR_ _,aR_ _,aR_ _,aR_ _,WkA.nil,WkA.nil,aR_ _,WkA.own,aR_ _,aR_ _,trivial⟩,rfl⟩,⟨_,rfl,wke_refl _,rfl⟩,⟨_,rfl,wke_refl _,rfl⟩,⟨_,rfl,wke_refl _,rfl⟩,trivial⟩))) (zL_ _) fun i hi=> ?_
   conv=>whnf
   refine bs (fun g2=> ?_) (fun g2=> ?_)
   ·conv=>whnf
    have hi':i<m.ls.length:=by simpa using g2
    obtain⟨l,hl⟩:=at_some hi';have el:m.lay i=l:=getD_of hl;subst el;have hlo:=h.loh hi';have hll:=(Mo.lw_ok h i (by omega)).len;have c:=lw_out hlo (by omega);obtain⟨R,hR⟩:∃R,R=lowL (m.lay i) (m.sh i) m.n (m.lw i).1 (m.lw i).2 ((m.lw i).2.getD i []):=⟨_,rfl⟩;have hR1:(m.lw (i+1)).1=R.1:=by rw[hR];rfl
    have hR2:(m.lw (i+1)).2=(m.lw i).2++[R.2]:=by rw[hR];rfl
    have hR3:((m.lw i).2++[R.2]).getD (i+1) []=R.2:=getD_snoc hll;rw[←hR]at c;clear hR;refine .mk (i) ((Lay.ly (m.lay i)).D) (rfl) (at_ly hl) ?_;conv=>whnf
    conv=>whnf
    refine Cn.lK [3,2,6,5] c ?_;conv=>whnf
    refine .mk (i) ([shD (m.sh (i+1))]) (rfl) (at_shT m hi') ?_;conv=>whnf
    conv=>whnf
    refine .mk (alR ((m.lw i).2++[R.2])) rfl (by rw[alR,List.map_append];rfl) (by rw[alR,List.length_map,List.length_append,hll];simp only[List.length_singleton];omega) ?_;conv=>whnf
    refine .mk (by kernel_rfl) ?_;conv=>whnf
    exact⟨i+1,by rw[hR1,hR2,hR3];exact Wk.go,hi',by omega⟩
   ·conv=>whnf
    have ei:i=m.ls.length:=by have:¬i<m.ls.length:=by simpa using g2
                              omega
    rw[ei];have hol:=h.gk.2.1;refine .mk (afR m.os) rfl rfl (by rw[afR,List.length_map,hol];omega) ?_;conv=>whnf
    refine .mk (by kernel_rfl) ?_;conv=>whnf
    exact .s ⟨rfl,rfl⟩
def evG (v:List Rat)(f:Af)(i:Nat):Rat:=(f.ts.take i).foldl (fun a t=>a+t.q*xi v t.v) f.c
theorem evG_succ {f:Af}{v:List Rat}{i:Nat}{t:Tm}(h:f.ts[i]? =some t):evG v f (i+1)=evG v f i+t.q*xi v t.v:=by
 unfold evG;rw[take_snoc h,List.foldl_append];rfl
theorem evG_all (f:Af)(v:List Rat):evG v f f.ts.length=ph 1 (xi v) f:=by
 have key:∀(ts:List Tm) (a:Rat),ts.foldl (fun a t=>a+t.q*xi v t.v) a=lsum (xi v) ts+a:=by
  intro ts
  induction ts with
  |nil=>intro a;simp[lsum,Rat.zero_add]
  |cons t ts ih=>intro a;rw[List.foldl_cons,ih,lsum];grind
 unfold evG ph;rw[List.take_length,key];grind
theorem xi_lv {L V:Nat}{v:List Rat}(h:Ll L V v)(i:Int):Lv L V (xi v i):=by
 unfold xi;rw[List.getD_eq_getElem?_getD]
 cases hx:v[i.toNat]? with
 |none=>exact Lv.zero
 |some x=>exact h x (mG_ hx)
theorem evG_lw {L e k V P:Nat}{n:Int}{f:Af}{v:List Rat}(hL:LOk L)(h:FLv L e k n f)(hv:Ll L V v)(h1:k≤P)(h2:e+V≤P):∀i,i≤f.ts.length→Lw L P (i+1) (evG v f i)
 |0,_=>((h.c.mono hL h1).w)
 |i+1,hi=>by
  obtain⟨t,ht⟩:=at_some (l:=f.ts) (i:=i) (by omega);rw[evG_succ ht];have hq:=h.co t.v;rw[(h.ts.cof_mem t (mG_ ht)).1]at hq;exact(evG_lw hL h hv h1 h2 i (by omega)).add ((hq.mul (xi_lv hv t.v)).mono hL h2).w
theorem ev_ph {L e k V P:Nat}{n:Int}{f:Af}{v:List Rat}(hL:LOk L)(h:FLv L e k n f)(hv:Ll L V v)(h1:k≤P)(h2:e+V≤P)(hl:f.ts.length≤1000):Lv L (P+1) (ph 1 (xi v) f):=by
 rw[←evG_all];exact(evG_lw hL h hv h1 h2 _ (lR_ _)).up hL (by omega)
theorem lx_geval {L e k V P:Nat}{n:Int}{f:Af}{v:List Rat}(hL:LOk L)(h:FLv L e k n f)(hv:Ll L V v)(h1:k≤P)(h2:e+V≤P)(hP:P≤20000)(h0:0≤n)(hn:n≤v.length)(hN:v.length≤1000):
  LV Tryz.prog 38 [.agg f.A,.a (.d (rqsD v))] (.tup [.g (can (ph 1 (xi v) f)).A,.s (.d (.lit (.int .i64 0)))]):=by
 have hlen:=h.ts.len h0;have hall:=evG_all f v;refine LX_run (m:=0) (n0:=0) mix Tryz.func38 rfl rfl rfl rfl ?_;conv=>whnf
 refine .mk Nat (fun i=>⟨[(14,vl (.int .i64 (i:Nat))),(13,vl (.int .i64 (f.ts.map Tm.D).length)),(12,.a (.d (.sl 4 (f.ts.map Tm.D)))),(6,.a (.ptr 2 0)),(4,.a (.ptr 1 0)),(2,.a (.ptr 0 0)),(1,.a (.d (rqsD v)))],[(0,.box 79 f.A),(1,.box 56 [.d (.lit (.bool false)),.d (.nat 0),.d (.nat 0)]),(2,.box 56 (can (evG v f i)).A)],3⟩)
  (fun i=>i≤f.ts.length) (fun i=>f.ts.length-i) 0 Wk.go (zL_ _) fun i hi=> ?_
 have hy:=evG_lw hL h hv h1 h2 i hi;conv=>whnf
 refine bs (fun g1=> ?_) (fun g1=> ?_)
 ·conv=>whnf
  have h1':i<f.ts.length:=by simpa using g1
  obtain⟨t,ht⟩:=at_some h1';have hs:=evG_succ (v:=v) ht;obtain⟨c1,c2,c3,c4⟩:=h.ts.cof_mem t (mG_ ht);have hq:=h.co t.v;rw[c1]at hq;obtain⟨tv,tq⟩:=t;simp only at c1 c2 c3 c4 hs hq;obtain⟨j,rfl⟩:∃j:Nat,tv=j:=⟨tv.toNat,by omega⟩;obtain⟨x,hx⟩:=at_some (l:=v) (i:=j) (by omega);have xb:=hv x (mG_ hx);rw[show xi v (j:Int)=x by unfold xi;rw[Int.toNat_natCast];exact getD_of hx]at hs;have hm:=(hq.mul xb).mono hL h2;generalize evG v f i=y at *
  refine .mk (i) ((Tm.D ⟨(j:Int),tq⟩)) (rfl) (at_map ht) ?_;conv=>whnf
  conv=>whnf
  refine bF (decide_eq_false (show ¬((j:Int)≥((v.map fun q=>(can q).D).length:Int)) by rw[List.length_map];omega)) ?_;conv=>whnf
  refine .mk (j) ((can x).D) (rfl) (at_map (f:=fun q=>(can q).D) hx) ?_;conv=>whnf
  conv=>whnf
  refine .c (lx_rmul (.c ((hq.mono hL (by omega:e≤P)).z hL (by omega))) (.c (xb.z hL (by omega)))) ?_;conv=>whnf
  refine .c (lx_radd (.c (hy.z hL (by omega) (by omega))) (.c (hm.z hL (by omega)))) ?_;conv=>whnf
  refine .mk (by kernel_rfl) ?_;conv=>whnf
  exact⟨i+1,by rw[hs];exact Wk.go,h1',by omega⟩
 ·conv=>whnf
  have e:i=f.ts.length:=by simp at g1;omega
  rw[e,hall]at hy;rw[e,hall];refine .c (lx_rcanon (.c (hy.z hL (by omega) (by omega)))) ?_;conv=>whnf
  exact .q ⟨rfl,rfl⟩
theorem Gk.eb {L n:Nat}{us os:List Af}(h:Gk L n us os):eL us.length≤340∧kL us.length≤8300:=by
 have:=h.u;unfold eL kL;omega
theorem Gk.uf' {L n:Nat}{us os:List Af}(hL:LOk L)(h:Gk L n us os){j:Nat}{f:Af}(hj:us[j]? =some f):FLv L 340 8300 ((n+j:Nat):Int) f:=(h.uf j f hj).mono hL h.eb.1 h.eb.2 (Int.le_refl _)
theorem Gk.of' {L n:Nat}{us os:List Af}(hL:LOk L)(h:Gk L n us os){f:Af}(hf:f∈os):FLv L 340 8300 ((n+us.length:Nat):Int) f:=(h.of f hf).mono hL h.eb.1 h.eb.2 (Int.le_refl _)
theorem FLv.af {L e k:Nat}{n:Int}{f:Af}(hL:LOk L)(h:FLv L e k n f)(he:e≤90000)(hk:k≤90000)(h0:0≤n)(hn:n≤1000000):AfOk f n:=(h.fb (m:=90000) hL he hk).ok (by omega) h0 hn
theorem Gk.ok {L n:Nat}{us os:List Af}(hL:LOk L)(h:Gk L n us os)(hn:1≤n)(hn':n≤24)(ho:1≤os.length)(ho':os.length≤24):GrOk ⟨(n:Nat),us,os⟩:=by
 have hu:=h.u;refine⟨by simp only;omega,by simp only;omega,by simp only;omega,ho,by simp only;omega,fun j f hj=> ?_,fun f hf=> ?_⟩
 ·have hlt:j<us.length:=at_lt hj;exact(h.uf' hL hj).af hL (by omega) (by omega) (Int.natCast_nonneg _) (show((n+j:Nat):Int)≤1000000 by omega)
 ·exact(h.of' hL hf).af hL (by omega) (by omega) (Int.natCast_nonneg _) (show((n+us.length:Nat):Int)≤1000000 by omega)
theorem gv_lv {L n:Nat}{us os:List Af}{x:List Rat}(hL:LOk L)(h:Gk L n us os)(hn:n≤24)(hx:Ll L 1 x)(hxl:x.length=n):∀j,j≤us.length→Ll L (8400+350*j) (gv us x j)
 |0,_=>fun v hv=>(hx v hv).mono hL (by omega)
 |j+1,hj=>fun v hv=>by
  have hu:=h.u;obtain⟨f,hf⟩:=at_some (l:=us) (i:=j) (by omega);have ih:=gv_lv hL h hn hx hxl j (by omega);rw[gv]at hv;rcases List.mem_append.1 hv with hv|hv
  ·exact(ih v hv).mono hL (by omega)
  ·rw[List.mem_singleton.1 hv,getD_of hf];have hfl:=h.uf' hL hf;have hlen:=hfl.ts.len (Int.natCast_nonneg _);have:=ev_ph (P:=8740+350*j) hL hfl ih (by omega) (by omega) (by omega);exact(Lv.zero.max this).mono hL (by omega)
def gp (us:List Af)(x:List Rat)(j:Nat):List Rat:=(List.range j).map fun j=>ph 1 (xi (gv us x j)) (us.getD j z0)
theorem gv_rows {us:List Af}{x:List Rat}{f:Af}{j:Nat}(hf:us[j]? =some f):rqR (gv us x (j+1))=rqR (gv us x j)++[(can (maxQ 0 (ph 1 (xi (gv us x j)) f))).D]:=by
 rw[gv,getD_of hf,rqR,List.map_append];rfl
theorem gp_rows {us:List Af}{x:List Rat}{f:Af}{j:Nat}(hf:us[j]? =some f):rqR (gp us x (j+1))=rqR (gp us x j)++[(can (ph 1 (xi (gv us x j)) f)).D]:=by
 rw[gp,range_map_snoc,getD_of hf,rqR,List.map_append];rfl
theorem lx_grun {L n:Nat}{us os:List Af}{x:List Rat}(hL:LOk L)(h:Gk L n us os)(hn:1≤n)(hn':n≤24)(ho:1≤os.length)(ho':os.length≤24)(hx:Ll L 1 x)(hxl:x.length=n):
  LV Tryz.prog 37 [.agg (Gr.A ⟨n,us,os⟩),.a (.d (rqsD x))] (.tup [.s (.d (rqsD (gv us x us.length))),.s (.d (rqsD (gp us x us.length))),.s (.d (.lit (.int .i64 0)))]):=by
 have hu:=h.u;refine LX_run (m:=0) (n0:=0) mix Tryz.func37 rfl rfl rfl rfl ?_;conv=>whnf
 refine .c (lx_gvalid (h.ok hL hn hn' ho ho')) ?_;conv=>whnf
 refine bF (by simp[hxl]) ?_;conv=>whnf
 refine .mk Nat (fun i=>⟨[(25,vl (.int .i64 (i:Nat))),(24,vl (.int .i64 (rqR x).length)),(23,.a (.d (rqsD x))),(4,.a (.own 1 3 (rqR (x.take i)))),(5,.a (.d (.lit (.slice none 0 0)))),(2,.a (.ptr 0 0))],
  [(0,.box 36 (Gr.A ⟨n,us,os⟩)),(1,.arr 56 3 (rqR (x.take i)).length)],2⟩) (fun i=>i≤x.length) (fun i=>x.length-i) 0
  (Wk.trans (Wk.own 4 1 56 3 rfl rfl (zL_ _)) Wk.go) (zL_ _) fun i hi=> ?_
 conv=>whnf
 refine bs (fun g0=> ?_) (fun g0=> ?_)
 ·conv=>whnf
  have hi':i<x.length:=by simpa using g0
  obtain⟨v,hv⟩:=at_some hi';refine .mk (i) ((can v).D) (rfl) (at_rq hv) ?_;conv=>whnf
  conv=>whnf
  refine .c (lx_rcanon (.c ((hx v (mG_ hv)).z hL (by omega)))) ?_;conv=>whnf
  refine .mk (rqR (x.take (i+1))) rfl (by rw[take_snoc hv,rqR,List.map_append];rfl) (by simp;omega) ?_;conv=>whnf
  exact⟨i+1,Wk.go,hi',by omega⟩
 ·conv=>whnf
  have ei:i=x.length:=by have:¬i<x.length:=by simpa using g0
                         omega
  rw[ei,List.take_length]
  refine .mk Nat (fun j=>⟨[(38,vl (.int .i64 (j:Nat))),(37,vl (.int .i64 (us.map Af.D).length)),(36,.a (.d (afsD us))),(4,.a (.own 1 3 (rqR (gv us x j)))),(5,.a (.own 2 3 (rqR (gp us x j)))),(2,.a (.ptr 0 0))],
   [(0,.box 36 (Gr.A ⟨n,us,os⟩)),(1,.arr 56 3 (rqR (gv us x j)).length),(2,.arr 56 3 (rqR (gp us x j)).length)],3⟩) (fun j=>j≤us.length) (fun j=>us.length-j) 0
   (Wk.trans (Wk.own 5 2 56 3 rfl rfl (zL_ _)) Wk.go) (zL_ _) fun j hj=> ?_
  conv=>whnf
  refine bs (fun g1=> ?_) (fun g1=> ?_)
  ·conv=>whnf
   have hj':j<us.length:=by simpa using g1
   obtain⟨f,hf⟩:=at_some hj';have hgl:=gv_lv hL h hn' hx hxl j (by omega);have hgn:=gv_len (us:=us) (x:=x) j;have hfl:=h.uf' hL hf;have hlen:=hfl.ts.len (Int.natCast_nonneg _);have hev:=ev_ph (P:=8740+350*j) hL hfl hgl (by omega) (by omega) (by omega);have c:=lx_geval (P:=8740+350*j) hL hfl hgl (by omega) (by omega) (by omega) (Int.natCast_nonneg _) (by omega) (by omega);refine .mk (j) (f.D) (rfl) (at_map hf) ?_;conv=>whnf
   conv=>whnf
   refine .c (c) ?_;conv=>whnf
   refine .mk (rqR (gp us x (j+1))) rfl (gp_rows hf) (by rw[List.length_map,gp,List.length_map,List.length_range];omega) ?_;conv=>whnf
   refine Cn.as (lx_rmax (.c (Lv.zero (L:=L) (e:=1) |>.z hL (by omega))) (.c (hev.z hL (by omega)))) rfl ⟨lit0_wk,vR_ _,trivial⟩ rfl rfl ?_;conv=>whnf
   refine .mk (rqR (gv us x (j+1))) rfl (gv_rows hf) (by rw[List.length_map,gv_len];omega) ?_;conv=>whnf
   exact⟨j+1,Wk.go,hj',by omega⟩
  ·conv=>whnf
   have ej:j=us.length:=by have:¬j<us.length:=by simpa using g1
                           omega
   rw[ej];exact .s ⟨rfl,rfl⟩
abbrev goT (us:List Af)(x:List Rat)(os:List Af)(i:Nat):List Rat:=(os.take i).map (ph 1 (xi (gv us x us.length)))
theorem lx_gouts {L n:Nat}{us os:List Af}{x:List Rat}(hL:LOk L)(h:Gk L n us os)(hn:1≤n)(hn':n≤24)(ho:1≤os.length)(ho':os.length≤24)(hx:Ll L 1 x)(hxl:x.length=n):
  LV Tryz.prog 11 [.agg (Gr.A ⟨n,us,os⟩),.a (.d (rqsD x))] (.tup [.s (.d (rqsD (gOut us os x))),.s (.d (.lit (.int .i64 0)))]):=by
 have hu:=h.u;have hgl:=gv_lv hL h hn' hx hxl us.length (lR_ _);have hgn:=gv_len (us:=us) (x:=x) us.length;refine LX_run (m:=0) (n0:=0) mix Tryz.func11 rfl rfl rfl rfl ?_;conv=>whnf
 refine .c (lx_grun hL h hn hn' ho ho' hx hxl) ?_;conv=>whnf
 refine .mk Nat (fun i=>⟨[(27,vl (.int .i64 (i:Nat))),(26,vl (.int .i64 (os.map Af.D).length)),(25,.a (.d (afsD os))),(9,.a (.own 1 3 (rqR (goT us x os i)))),(6,.a (.d (rqsD (gv us x us.length))))],
  [(1,.arr 56 3 (rqR (goT us x os i)).length)],2⟩) (fun i=>i≤os.length) (fun i=>os.length-i) 0
  (Wk.trans (Wk.own 9 1 56 3 rfl rfl (zL_ _)) Wk.go) (zL_ _) fun i hi=> ?_
 conv=>whnf
 refine bs (fun g0=> ?_) (fun g0=> ?_)
 ·conv=>whnf
  have hi':i<os.length:=by simpa using g0
  obtain⟨f,hf⟩:=at_some hi';have hfl:=h.of' hL (mG_ hf);have c:=lx_geval (P:=8740+350*us.length) hL hfl hgl (by omega) (by omega) (by omega) (Int.natCast_nonneg _) (by omega) (by omega);refine .mk (i) (f.D) (rfl) (at_map hf) ?_;conv=>whnf
  conv=>whnf
  refine .c (c) ?_;conv=>whnf
  refine .mk (rqR (goT us x os (i+1))) rfl (by rw[goT,take_snoc hf,List.map_append,rqR,List.map_append];rfl) (by simp;omega) ?_;conv=>whnf
  exact⟨i+1,Wk.go,hi',by omega⟩
 ·conv=>whnf
  have ei:i=os.length:=by have:¬i<os.length:=by simpa using g0
                          omega
  rw[ei];exact .s ⟨by rw[goT,List.take_length];rfl,rfl⟩
section
variable {γ γ':Gh} {h h':Hp} {M:MS} {w:World} {g:Nat}
def NU (M:MS)(w:World)(g:Nat):Prop:=∀i u,Fx M w g i u→∀z,u≠ .int .u32 z
abbrev Mh (M:MS)(g:Nat):MS:=fun b i=>M b i∨b=g
theorem nu_fx {b i:Nat}{u:Value}(h:Fx M w b i u)(hb:b≠g):Fx (Mh M g) w b i u:=⟨fun q=>q.elim h.1 hb,h.2⟩
theorem nu_lm (hg:NU M w g){xs:List Nat}{v:Value}(hv:RdD M w (.lm xs) v):RdD (Mh M g) w (.lm xs) v:=by
 cases hv with
 |lm xs v hs hm=>
  refine .lm xs v hs fun b o l c he i hi hq=> ?_;rcases hq with hq|hq
  ·exact hm b o l c he i hi hq
  ·obtain⟨ad,n,cap,e1,h1,h2,h3,h4,h5⟩:=hs;rw[he]at e1;injection e1 with e1 e2 e3;subst e2 e3;obtain⟨b',off,e4,hb,hc⟩:=h5 (by omega);rw[e4]at e1;injection e1 with e1;injection e1 with e5 e6;subst e5 e6 hq;exact hg (o+i) _ ⟨hm b o l c he i hi,hc i hi⟩ _ rfl
theorem nu_lit {v u:Value}(hv:RdD M w (.lit v) u):RdD (Mh M g) w (.lit v) u:=by cases hv with|lit v=>exact .lit _
theorem tm_nu (hg:NU M w g){t:Tm}:∀d∈t.D,∀u,RdD M w d u→RdD (Mh M g) w d u:=fun d hd u hu=>by
 simp only[Tm.D,List.mem_cons,List.not_mem_nil,or_false]at hd;rcases hd with rfl|rfl|rfl|rfl
 ·exact nu_lit hu
 ·exact nu_lit hu
 ·exact nu_lm hg hu
 ·exact nu_lm hg hu
theorem tm_nint {t:Tm}:∀d∈t.D,∀u,RdD M w d u→∀z,u≠ .int .u32 z:=fun d hd u hu z e=>by
 subst e;simp only[Tm.D,List.mem_cons,List.not_mem_nil,or_false]at hd;rcases hd with rfl|rfl|rfl|rfl
 ·cases hu
 ·cases hu
 ·cases hu with|lm _ _ hs _=>obtain⟨ad,n,cap,e,_⟩:=hs;cases e
 ·cases hu with|lm _ _ hs _=>obtain⟨ad,n,cap,e,_⟩:=hs;cases e
end
theorem LX.thawT {P:Program}{F:FuncId}{args:List V}{e:TypeId}{ts:List Tm}(hts:ts≠[])
  (hc:LX P F args [] fun v H=>v= .a (.own 0 4 (ts.map Tm.D))∧H=[(0,.arr e 4 (ts.map Tm.D).length)]):
  LX P F args [] fun v H=>v= .a (.tab 0 (ts.map Tm.D).length)∧H=[(0,.tab e 4 (ts.map Tm.D))]:=by
 obtain⟨_,_,⟨rfl,rfl⟩,hc⟩:=hc;refine⟨_,_,⟨rfl,rfl⟩,fun γ M w rs hr ha=> ?_⟩;refine cM (hc γ M w rs hr ha) ?_;rintro e' w' ⟨x,γ',M',h1,h2,h3,h4⟩;obtain⟨a1,a2,a3⟩:=h3;have b4:=(a3 e 4 _ rfl).2 rfl;obtain⟨xs,hx⟩:=h2.ent 0 _ rfl;rw[←b4]at hx;obtain⟨g1,c1,cur1,rfl,z1,l1,s1⟩:∃g cap cur,x= .slice (some ⟨g,0,none⟩) (ts.map Tm.D).length cap∧w'.heap[g]? =some (.cells cur e (0,0))∧(ts.map Tm.D).length≤cap∧cur.size=cap*4:=by
  rcases hx.2 with⟨q1,q2⟩|⟨g,cap,cur,q1,_,q2,q3,_,q4,_⟩
  ·exfalso;apply hts;exact List.map_eq_nil_iff.1 (List.eq_nil_of_length_eq_zero q2)
  ·exact⟨g,cap,cur,q1,q2,q3,q4⟩
 have y1:γ' 0= .slice (some ⟨g1,0,none⟩) (ts.map Tm.D).length c1:=b4.symm
 have hroom:∀i,(ts.map Tm.D).length*4≤i→M' g1 i:=fun i hi=>h2.own 0 g1 i (by
  show blk (γ' 0)=some g1∧_;exact⟨by rw[y1];rfl,hi⟩)
 have hnew:w.heap.size≤g1:=by
  rcases Nat.lt_or_ge g1 w.heap.size with hlt|hge
  ·obtain⟨key0,ho⟩:=h4.new 0 g1 ((ts.map Tm.D).length*4) (by
    show blk (γ' 0)=some g1∧_;exact⟨by rw[y1];rfl,lR_ _⟩) hlt
   exact absurd ho (by unfold Owns;simp[look])
  ·exact hge
 obtain⟨m1,m2,m3,m4,cx,k1,k2,k3,k4⟩:=sl_cells a1 (by decide);have hpos:0<(ts.map Tm.D).length:=by
  rcases eP_ (ts.map Tm.D).length with h0|h0
  ·exfalso;apply hts;exact List.map_eq_nil_iff.1 (List.eq_nil_of_length_eq_zero h0)
  ·exact h0
 obtain⟨b,o,eb,hfx⟩:=k3 hpos;injection eb with eb;injection eb with eb eo _;subst eb eo
 have hcur:∀q u,cx[q]? =some u→cur1[q]? =some u:=fun q u hq=>by
  have:=(hfx q u hq).2;simp only[World.cell?,z1,Nat.zero_add]at this;simpa using this
 obtain⟨f1,f2⟩:=rows_flatten (xs:=ts.map Tm.D) m4
 have hel:∀q u,cx[q]? =some u→∃d,(ts.map Tm.D).flatten[q]? =some d∧(∃f:Tm,d∈f.D)∧RdD M' w' d u:=fun q u hq=>by
  have hlt:=(List.getElem?_eq_some_iff.1 hq).1;obtain⟨i,j,row,e1,e2,e3⟩:=f2 q _ (List.getElem?_eq_getElem (by rw[f1];omega));obtain⟨u',t1,t2⟩:=k4 i row j _ e2 e3;rw[←e1,hq]at t1;injection t1 with t1;subst t1;refine⟨_,List.getElem?_eq_getElem _,?_,t2⟩;obtain⟨f,_,rfl⟩:=List.mem_map.1 (mG_ e2);exact⟨f,mG_ e3⟩
 have hcell:∀i u,Fx M' w' g1 i u→cx[i]? =some u:=fun i u hf=>by
  have hi:i<(ts.map Tm.D).length*4:=by
   rcases Nat.lt_or_ge i ((ts.map Tm.D).length*4)with hlt|hge
   ·exact hlt
   ·exact absurd (hroom i hge) hf.1
  have hlt:i<cx.length:=by omega
  have hq:=List.getElem?_eq_getElem hlt;have:=(hfx i _ hq).2;rw[Nat.zero_add]at this;rw[hf.2]at this;injection this with this;rw[hq,this]
 have hni:NU M' w' g1:=fun i u hf z=>by
  obtain⟨d,_,⟨f,hd⟩,hu⟩:=hel i u (hcell i u hf);exact tm_nint d hd u hu z
 have hall:All2 (RdD (Mh M' g1) w') (ts.map Tm.D).flatten cx:=by
  refine All2.of_get (by rw[f1];omega) fun q d u hd hq=> ?_;obtain⟨d',e1,⟨f,hf⟩,hu⟩:=hel q u hq;rw[hd]at e1;injection e1 with e1;subst e1;exact tm_nu hni d hf u hu
 have hcur2:cur1=(cx++cur1.toList.drop cx.length).toArray:=by
  apply Array.ext';rw[List.toList_toArray];have:cur1.toList.take cx.length=cx:=by
   refine List.ext_getElem? fun q=> ?_;rw[List.getElem?_take];split
   ·rename_i hq;rw[List.getElem?_eq_getElem hq,Array.getElem?_toList];exact hcur q _ (List.getElem?_eq_getElem hq)
   ·rw[List.getElem?_eq_none (by omega)]
  conv=>lhs;rw[←List.take_append_drop cx.length cur1.toList,this]
 have hf0:∀b i v,Fx M w b i v→Fx (Mh M' g1) w' b i v:=fun b i v hf=>by
  have hb:=World.block_lt_of_cell? _ _ hf.2;exact nu_fx (h4.fx b i v hf) (by simp only at hb;omega)
 have hl:∀key e',look [(0,Ent.tab e 4 (ts.map Tm.D))] key=some e'→key=0∧e'= .tab e 4 (ts.map Tm.D):=fun key e' he=>by
  unfold look at he;split at he
  ·injection he with he;exact⟨by omega,he.symm⟩
  ·cases he
 have hown:∀key b i,Owns (fun _=>Value.pointer (some ⟨g1,0,none⟩)) (look [(0,Ent.tab e 4 (ts.map Tm.D))]) key b i→b=g1:=fun key b i ho=>by
  obtain⟨_,k2⟩:=owns_live ho;simp[blk]at k2;exact k2.symm
 have hlive:∀key,live (look [(0,Ent.tab e 4 (ts.map Tm.D))] key)=true→key=0:=fun key hk=>by
  cases he:look [(0,Ent.tab e 4 (ts.map Tm.D))] key with
  |none=>rw[he]at hk;cases hk
  |some e'=>exact(hl _ _ he).1
 refine⟨_,fun _=> .pointer (some ⟨g1,0,none⟩),Mh M' g1,h1,⟨fun key en hk=> ?_,fun key b i ho=> .inr (hown _ _ _ ho),fun k1' k2' b l1' l2' _ _=>by rw[hlive _ l1',hlive _ l2'],fun b i z hm=> ?_,fun b i hm=> ?_,hr.glb.fx hf0⟩,⟨rfl,⟨g1,c1,rfl,rfl,l1⟩,fun e1 k rows he=> ?_⟩,
  ⟨h4.os,h4.tape,h4.output,h4.size,hf0,h4.other,fun b i hm hn=> .inl (h4.keep b i hm hn),fun key b i ho hb=>by have:=hown _ _ _ ho;omega,fun key en hk=>by simp[look]at hk⟩⟩
 ·obtain⟨rfl,rfl⟩:=hl key en hk;refine⟨g1,cx,cur1.toList.drop cx.length,rfl,by rw[←hcur2];exact z1,fun row hrow=> ?_,hall,k2⟩;obtain⟨f,_,rfl⟩:=List.mem_map.1 hrow;rfl
 ·rcases hm with hm|hm
  ·exact h2.u32 b i z hm
  ·subst hm;intro hcl;rcases Classical.em (∃u,cx[i]? =some u)with⟨u,hu⟩|hno
   ·obtain⟨d,_,⟨f,hd⟩,hru⟩:=hel i u hu;have:=(hfx i u hu).2;rw[Nat.zero_add,hcl]at this;injection this with this;exact tm_nint d hd u hru _ this.symm
   ·have hge:(ts.map Tm.D).length*4≤i:=by
     rcases Nat.lt_or_ge i ((ts.map Tm.D).length*4)with hlt|hge
     ·exfalso;exact hno ⟨_,List.getElem?_eq_getElem (by omega)⟩
     ·exact hge
    exact h2.u32 b i z (hroom i hge) hcl
 ·rcases hm with hm|hm
  ·exact h2.dom b i hm
  ·subst hm;exact(Array.getElem?_eq_some_iff.1 z1).1
 ·obtain⟨_,he⟩:=hl _ _ he;injection he with _ _ he;rw[he]
theorem Wk.freezeB {m:Nat}{s:St}(b key j nn:Nat){t e:TypeId}{k:Nat}{cs:List A}{rows:List (List D)}(hb:look s.H b=some (.box t cs))(hj:cs[j]? =some (.tab key nn))(hk:look s.H key=some (.tab e k rows))(hl:nn≤1099511627776):
  Wk m s ⟨s.T,(b,.box t (cs.set j (.d (.sl k rows))))::(key,.gone)::s.H,s.n⟩:=by
 intro N γ0 h0 M0 w0 a w hm hd hS;obtain⟨γ,M,k1,k2,k3,k4,k5⟩:=hS;have hne:b≠key:=by intro e1;subst e1;rw[hb]at hk;cases hk
 obtain⟨M',q1,q2,q3⟩:=Lf.freeze k1 hk hl;obtain⟨h1,hh1⟩:∃h1,h1=over [(key,Ent.gone)] (look s.H):=⟨_,rfl⟩;rw[←hh1]at q1 q2;have hb1:h1 b=some (.box t cs):=by rw[hh1,over_other hne];exact hb
 obtain⟨h2,hh2⟩:∃h2,h2=over [(b,Ent.box t (cs.set j (.d (.sl k rows))))] h1:=⟨_,rfl⟩;have hb2:h2 b=some (.box t (cs.set j (.d (.sl k rows)))):=by rw[hh2,over_same]
 have ho2:∀key',key'≠b→h2 key'=h1 key':=fun key' e1=>by rw[hh2,over_other e1]
 have ho:∀key' b' i,Owns γ h2 key' b' i↔Owns γ h1 key' b' i:=fun key' b' i=>by
  by_cases e1:key'=b
  ·subst e1;simp only[Owns,hb1,hb2]
  ·exact owns_congr rfl (ho2 _ e1)
 have hlv:∀key',live (h2 key')=live (h1 key'):=fun key'=>by
  by_cases e1:key'=b
  ·subst e1;rw[hb1,hb2];rfl
  ·rw[ho2 _ e1]
 have s2:Stp γ h1 M' w γ h2 M' w:=by
  refine⟨rfl,rfl,rfl,lR_ _,fun _ _ _ k=>k,fun _ _ _=>rfl,fun _ _ k _=>k,fun key' b' i h1 _=>⟨key',(ho _ _ _).1 h1⟩,fun key' e' he=> ?_⟩
  by_cases e1:key'=b
  ·subst e1;rw[hb1]at he;injection he with he;subst he;exact⟨_,hb2,trivial,.inl rfl⟩
  ·exact⟨e',by rw[ho2 _ e1];exact he,Goes.refl _,.inl rfl⟩
 have s3:=Stp.trans q2 s2 k1.dom;have r2:Rel γ h2 M' w:=by
  refine⟨fun key' e' he=> ?_,fun key' b' i h1=>q1.own key' b' i ((ho _ _ _).1 h1),fun k1 k2 b' l1 l2 b1 b2=>q1.inj k1 k2 b' (by rw[←hlv];exact l1) (by rw[←hlv];exact l2) b1 b2,q1.u32,q1.dom,q1.glb⟩
  by_cases e1:key'=b
  ·subst e1;rw[hb2]at he;injection he with he;subst he;obtain⟨g,vs,p1,p2,p3⟩:=k1.ent _ _ hb
   have p4:All2 (fun x v=>RdA γ (look s.H) M w x v∨(x= .d (.sl k rows)∧RdD M' w (.sl k rows) v)) (cs.set j (.d (.sl k rows))) vs:=
    All2.set (All2.imp (fun x v hv=> .inl hv) p3) hj fun v hv=> .inr ⟨rfl,q3 v (hv.elim id fun hv=>by cases hv.1)⟩
   exact⟨g,vs,p1,p2,All2.imp (fun x v hv=>hv.elim (fun hv=>RdA.stp s3 hv) fun hv=>by rw[hv.1];exact hv.2) p4⟩
  ·rw[ho2 _ e1]at he;exact EntR.stp s2 (q1.ent key' e' he) rfl fun _ _ _=>rfl
 have e1:look ((b,Ent.box t (cs.set j (.d (.sl k rows))))::(key,Ent.gone)::s.H)=h2:=by
  rw[hh2,hh1,←look_app [(key,Ent.gone)] s.H];exact look_app [(b,_)] ((key,Ent.gone)::s.H)
 refine⟨γ,M',by rw[e1];exact r2,⟨k2.1.fx s3.fx,fun d' v' hv'=> ?_⟩,k3,k4,by rw[e1];exact k5.trans s3 hd⟩;obtain⟨x,y1,y2⟩:=k2.2 d' v' hv';exact⟨x,y1,by rw[e1];exact RdV.stp s3 y2⟩
theorem lx_cloneTm {l:List Tm}(hl:l.length≤1000000):LX Tryz.prog 174 [.a (.d (.sl 4 (l.map Tm.D)))] [] fun v H=>v= .a (.own 0 4 (l.map Tm.D))∧H=[(0,.arr 107 4 (l.map Tm.D).length)]:=by
 cases l with
 |cons x xs=>
  refine LX_run (m:=0) (n0:=0) mix Tryz.func174 rfl rfl rfl rfl ?_;conv=>whnf
  refine .own ?_;conv=>whnf
  refine .mk ((x::xs).map Tm.D) rfl rfl (by simp at hl ⊢;omega) ?_;conv=>whnf
  exact⟨_,_,⟨rfl,rfl⟩,vR_ _,rfl,⟨⟨_,rfl,wke_refl _,rfl⟩,trivial⟩,rfl⟩
 |nil=>
  refine clone_nil (k:=4) (e:=107) ?_ fun a cap=> ?_
  ·intro cap;refine LX_run (m:=0) (n0:=0) mix Tryz.func174 rfl rfl rfl rfl ?_;conv=>whnf
   exact⟨_,_,⟨rfl,rfl⟩,vR_ _,rfl,trivial,rfl⟩
  ·refine LX_run (m:=0) (n0:=0) mix Tryz.func174 rfl rfl rfl rfl ?_;conv=>whnf
   refine .own ?_;conv=>whnf
   refine .mk [] rfl rfl (by decide) ?_;conv=>whnf
   exact⟨_,_,⟨rfl,rfl⟩,vR_ _,rfl,⟨⟨_,rfl,wke_refl _,rfl⟩,trivial⟩,rfl⟩
theorem lx_cloneAf {l:List Af}(hl:l.length≤1000000):LX Tryz.prog 66 [.a (.d (afsD l))] [] fun v H=>v= .a (.own 0 4 (afR l))∧H=[(0,.arr 79 4 (afR l).length)]:=by
 cases l with
 |cons x xs=>
  refine LX_run (m:=0) (n0:=0) mix Tryz.func66 rfl rfl rfl rfl ?_;conv=>whnf
  refine .own ?_;conv=>whnf
  refine .mk (afR (x::xs)) rfl rfl (by simp at hl ⊢;omega) ?_;conv=>whnf
  exact⟨_,_,⟨rfl,rfl⟩,vR_ _,rfl,⟨⟨_,rfl,wke_refl _,rfl⟩,trivial⟩,rfl⟩
 |nil=>
  refine clone_nil (k:=4) (e:=79) ?_ fun a cap=> ?_
  ·intro cap;refine LX_run (m:=0) (n0:=0) mix Tryz.func66 rfl rfl rfl rfl ?_;conv=>whnf
   exact⟨_,_,⟨rfl,rfl⟩,vR_ _,rfl,trivial,rfl⟩
  ·refine LX_run (m:=0) (n0:=0) mix Tryz.func66 rfl rfl rfl rfl ?_;conv=>whnf
   refine .own ?_;conv=>whnf
   refine .mk [] rfl rfl (by decide) ?_;conv=>whnf
   exact⟨_,_,⟨rfl,rfl⟩,vR_ _,rfl,⟨⟨_,rfl,wke_refl _,rfl⟩,trivial⟩,rfl⟩
abbrev rnT (v:Int)(t:Tm):Tm:=⟨if v<t.v then t.v-1 else t.v,t.q⟩
def rnS (v:Int)(ts:List Tm)(k:Nat):List Tm:=(ts.take k).map (rnT v)++ts.drop k
theorem rnS_at {v:Int}{ts:List Tm}{k:Nat}{t:Tm}(h:ts[k]? =some t):(rnS v ts k)[k]? =some t:=by
 have hk:=at_lt h;have h1:((ts.take k).map (rnT v)).length=k:=by rw[List.length_map,List.length_take];omega
 unfold rnS;rw[List.getElem?_append_right (by omega),h1,Nat.sub_self,List.getElem?_drop,Nat.add_zero,h]
theorem rnS_set {v:Int}{ts:List Tm}{k:Nat}{t:Tm}(h:ts[k]? =some t):rnS v ts (k+1)=(rnS v ts k).set k (rnT v t):=by
 have hk:=at_lt h;have h1:((ts.take k).map (rnT v)).length=k:=by rw[List.length_map,List.length_take];omega
 have h2:ts.drop k=t::ts.drop (k+1):=by
  rw[List.drop_eq_getElem_cons hk]
  congr 1
  rw[List.getElem?_eq_getElem hk]at h;injection h
 unfold rnS;rw[take_snoc h,h2,List.map_append,List.set_append,if_neg (by omega),h1,Nat.sub_self];simp
theorem rnS_same {v:Int}{ts:List Tm}{k:Nat}{t:Tm}(h:ts[k]? =some t)(ht:¬v<t.v):rnS v ts (k+1)=rnS v ts k:=by
 rw[rnS_set h];have h0:=rnS_at (v:=v) h;have hk:=at_lt h0;rw[List.getElem?_eq_getElem hk]at h0;injection h0 with h0;have:rnT v t=t:=by unfold rnT;rw[if_neg ht]
 rw[this,←h0,List.set_getElem_self]
theorem rnS_zero {v:Int}{ts:List Tm}:rnS v ts 0=ts:=by unfold rnS;simp
theorem rnS_all {v:Int}{ts:List Tm}:rnS v ts ts.length=ts.map (rnT v):=by unfold rnS;simp
theorem lx_replaced {fs:List Af}{b:Af}{n v:Int}{e:Nat}(h0:0≤v)(hv:v<n)(hn:n≤1000)(hb:FB e v b)(hf:∀f∈fs,FB e n f)(he:e≤300000000)(hl:fs.length≤1000):
  LV Tryz.prog 118 [.a (.d (afsD fs)),vl (.int .i64 v),.agg b.A] (.a (.d (afsD (fs.map (repF v b))))):=by
 refine LX_run (m:=0) (n0:=0) mix Tryz.func118 rfl rfl rfl rfl ?_;conv=>whnf
 refine .mk Nat (fun i=>⟨[(14,vl (.int .i64 (i:Nat))),(13,vl (.int .i64 (fs.map Af.D).length)),(12,.a (.d (afsD fs))),(7,.a (.own 1 4 (afR ((fs.take i).map (repF v b))))),(5,.a (.ptr 0 0)),(1,vl (.int .i64 v))],
  [(0,.box 79 b.A),(1,.arr 79 4 (afR ((fs.take i).map (repF v b))).length)],2⟩) (fun i=>i≤fs.length) (fun i=>fs.length-i) 0
  (Wk.trans (Wk.own 7 1 79 4 rfl rfl (zL_ _)) Wk.go) (zL_ _) fun i hi=> ?_
 conv=>whnf
 refine bs (fun g0=> ?_) (fun g0=> ?_)
 ·conv=>whnf
  have hi':i<fs.length:=by simpa using g0
  obtain⟨f,hfi⟩:=at_some hi';have hff:=hf f (mG_ hfi);have hbn:FB e n b:=⟨hb.ts.up (by omega),hb.co,hb.c⟩;have cs:=pl_subst (v:=v) hff hbn (by omega) (by omega) (by omega);have hts:Ts n (substS f v b):=Ts.subst hff.ts hb.ts (by omega);have hln:=hts.len (by omega);have es:repF v b f=⟨(substS f v b).ts.map (rnT v),(substS f v b).c⟩:=rfl;generalize substS f v b=g at *
  obtain⟨ts,c⟩:=g;simp only at hts hln es;refine .mk (i) (f.D) (rfl) (at_map hfi) ?_;conv=>whnf
  conv=>whnf
  refine .c (cs) ?_;conv=>whnf
  have happ:afR ((fs.take (i+1)).map (repF v b))=afR ((fs.take i).map (repF v b))++[(Af.D ⟨ts.map (rnT v),c⟩)]:=by
   rw[take_snoc hfi,List.map_append,List.map_cons,List.map_nil,es,afR,List.map_append];rfl
  rcases eP_ ts.length with hz|hz
  ·obtain rfl:=List.eq_nil_of_length_eq_zero hz;refine .l [] (lx_cloneTm (l:=[]) (by decide)) ?_;conv=>whnf
   refine .mk Nat (fun k=>⟨[(29,vl (.int .i64 (k:Nat))),(28,vl (.int .i64 ((0:Nat):Int))),(9,.a (.ptr 2 0)),(14,vl (.int .i64 (i:Nat))),(13,vl (.int .i64 (fs.map Af.D).length)),(12,.a (.d (afsD fs))),(7,.a (.own 1 4 (afR ((fs.take i).map (repF v b))))),(5,.a (.ptr 0 0)),(1,vl (.int .i64 v))],
    [(2,.box 79 (Af.A ⟨[],c⟩)),(0,.box 79 b.A),(1,.arr 79 4 (afR ((fs.take i).map (repF v b))).length)],3⟩) (fun k=>k≤0) (fun k=>0-k) 0
    (Wk.go (h2:=⟨⟨_,rfl,⟨_,rfl,WkA.own,aR_ _,aR_ _,aR_ _,trivial⟩,rfl⟩,⟨_,rfl,wke_refl _,rfl⟩,⟨_,rfl,wke_refl _,rfl⟩,trivial⟩)) (zL_ _) fun k hk=> ?_
   conv=>whnf
   refine .mk (afR ((fs.take (i+1)).map (repF v b))) rfl happ (by simp;omega) ?_;conv=>whnf
   exact⟨i+1,Wk.go,hi',by omega⟩
  ·have cl:=LX.thawT (ts:=ts) (by intro h;rw[h]at hz;exact absurd hz (by decide)) (lx_cloneTm (l:=ts) (by omega));have hml:(ts.map Tm.D).length=ts.length:=List.length_map ..;rw[hml]at cl;refine .l [] (cl) ?_;conv=>whnf
   refine .mkw Nat (fun k=>⟨[(29,vl (.int .i64 (k:Nat))),(28,vl (.int .i64 (ts.length:Nat))),(27,.a (.tab 3 ts.length)),(9,.a (.ptr 2 0)),(14,vl (.int .i64 (i:Nat))),(13,vl (.int .i64 (fs.map Af.D).length)),(12,.a (.d (afsD fs))),(7,.a (.own 1 4 (afR ((fs.take i).map (repF v b))))),(5,.a (.ptr 0 0)),(1,vl (.int .i64 v))],
    [(2,.box 79 (.tab 3 ts.length::(can c).A)),(3,.tab 107 4 ((rnS v ts k).map Tm.D)),(0,.box 79 b.A),(1,.arr 79 4 (afR ((fs.take i).map (repF v b))).length)],4⟩) (fun k=>k≤ts.length) (fun k=>ts.length-k) 0
    (by rw[rnS_zero];exact Wk.go) (zL_ _) fun k hk=> ?_
   conv=>whnf
   refine bs (fun g1=> ?_) (fun g1=> ?_)
   ·conv=>whnf
    have hk':k<ts.length:=by have:=of_decide_eq_true g1;omega
    obtain⟨t,ht⟩:=at_some hk';have hat:=rnS_at (v:=v) ht;obtain⟨c1,c2,c3,c4⟩:=hts.cof_mem t (mG_ ht);refine .mk k rfl (by omega) ?_;conv=>whnf
    refine .mk k 0 t.D rfl (at_map hat) ?_;conv=>whnf
    refine bs (fun g2=> ?_) (fun g2=> ?_)
    ·conv=>whnf
     have hgt:v<t.v:=by have:=of_decide_eq_true g2;omega
     have ew:IntKind.i64.wrap (t.v-1)=t.v-1:=wr64 (by omega) (by omega);have est:(rnS v ts (k+1)).map Tm.D=((rnS v ts k).map Tm.D).set k (Tm.D ⟨t.v-1,t.q⟩):=by
      rw[rnS_set ht,List.map_set,rnT,if_pos hgt]
     refine .mk k rfl (by omega) ?_;conv=>whnf
     refine .mk k 0 t.D rfl (at_map hat) ?_;conv=>whnf
     rw[ew];refine .mk k rfl (by omega) ?_;conv=>whnf
     refine .mk k 0 t.D ((rnS v ts (k+1)).map Tm.D) rfl (at_map hat) (Nat.le_of_ble_eq_true rfl) (by rw[est];rfl) ?_;conv=>whnf
     exact⟨k+1,Wk.go,hk',by omega⟩
    ·conv=>whnf
     have hgt:¬v<t.v:=by have:=of_decide_eq_false g2;omega
     exact⟨k+1,by rw[rnS_same ht hgt];exact Wk.go,hk',by omega⟩
   ·conv=>whnf
    have ek:k=ts.length:=by have:=of_decide_eq_false g1;omega
    subst ek;rw[rnS_all];refine⟨_,Wk.freezeB 2 3 0 ts.length rfl rfl rfl (by omega),?_⟩;conv=>whnf
    refine .mk (afR ((fs.take (i+1)).map (repF v b))) rfl happ (by simp;omega) ?_;conv=>whnf
    exact⟨i+1,Wk.go,hi',by omega⟩
 ·conv=>whnf
  have ei:i=fs.length:=by have:¬i<fs.length:=by simpa using g0
                          omega
  rw[ei,List.take_length];exact .s ⟨rfl,rfl⟩
theorem take_drop_map {us:List Af}{j:Nat}{φ:Af→Af}:afR (us.take j)++afR ((us.drop (j+1)).map φ)=afR (us.take j++(us.drop (j+1)).map φ):=by rw[afR,afR,afR,List.map_append]
abbrev grA (n:Nat)(us os:List Af):List A:=[.d (.lit (.int .i64 (n:Nat))),.d (afsD us),.d (afsD os)]
theorem lx_replace {n j:Nat}{us os:List Af}{b:Af}{e:Nat}(hj:j<us.length)(hn:n≤100)(hu:us.length≤100)(hol:os.length≤100)(hb:FB e ((n+j:Nat):Int) b)(he:e≤300000000)
  (huf:∀f∈us.drop (j+1),FB e ((n+us.length:Nat):Int) f) (hof:∀f∈os,FB e ((n+us.length:Nat):Int) f):
  LV Tryz.prog 67 [.agg (grA n us os),vl (.int .i64 (j:Nat)),.agg b.A] (.agg (grA n (repU n j b us) (os.map (repF ((n+j:Nat):Int) b)))):=by
 have ev:IntKind.i64.wrap ((n:Int)+(j:Int))=((n+j:Nat):Int):=by rw[←Int.natCast_add,wrN (by omega)]
 have ej:IntKind.i64.wrap ((j:Int)+1)=((j+1:Nat):Int):=by rw[wr64 (by omega) (by omega)];omega
 have c1:=lx_replaced (v:=((n+j:Nat):Int)) (by omega) (Int.ofNat_lt.2 (by omega)) (by omega) hb huf he (by rw[List.length_drop];omega);have c2:=lx_replaced (v:=((n+j:Nat):Int)) (by omega) (Int.ofNat_lt.2 (by omega)) (by omega) hb hof he (by omega);have cc:=lx_cloneAf (l:=us.take j) (by rw[List.length_take];omega);refine LX_run (m:=0) (n0:=0) mix Tryz.func67 rfl rfl rfl rfl ?_;conv=>whnf
 rw[ev];refine .mk 0 j (afR (us.take j)) rfl rfl (by omega) (by rw[List.length_map];omega) (by rw[List.drop_zero,afR,List.map_take]) ?_;conv=>whnf
 refine .l [] (cc) ?_;conv=>whnf
 rw[ej];refine .mk (j+1) us.length (afR (us.drop (j+1))) rfl (by rw[List.length_map];rfl) (by omega) (by rw[List.length_map];omega) (by rw[List.take_of_length_le (by rw[List.length_map];omega),afR,List.map_drop]) ?_;conv=>whnf
 refine .c (c1) ?_;conv=>whnf
 refine .mk (afR (repU n j b us)) rfl (by rw[repU,take_drop_map]) (by rw[afR,List.length_map,repU_len hj];omega) ?_;conv=>whnf
 refine .c (c2) ?_;conv=>whnf
 refine .mk (by kernel_rfl) ?_;conv=>whnf
 exact .s ⟨rfl,rfl⟩
structure GS (L n:Nat)(us os us' os':List Af):Prop where
 gk:Gk L n us' os'
 eq:Eqg n us os us' os'
 ul:us'.length≤us.length
 ol:os'.length=os.length
theorem GS.refl {L n:Nat}{us os:List Af}(h:Gk L n us os):GS L n us os us os:=⟨h,Eqg.refl n us os,lR_ _,rfl⟩
theorem GS.trans {L n:Nat}{us os us' os' us'' os'':List Af}(h:GS L n us os us' os')(k:GS L n us' os' us'' os''):GS L n us os us'' os'':=⟨k.gk,h.eq.trans k.eq,tL_ k.ul h.ul,k.ol.trans h.ol⟩
theorem GS.rep {L n j:Nat}{us os us' os':List Af}{b:Af}(hL:LOk L)(h:GS L n us os us' os')(hj:j<us'.length)(hb:By L (kL us'.length) ((n+j:Nat):Int) b)
  (hc:(∀ξ,Sat n us' ξ→ξ ((n+j:Nat):Int)=ph 1 ξ b)∨((∀(i:Nat) f,j<i→us'[i]? =some f→cof f.ts ((n+j:Nat):Int)=0)∧∀f∈os',cof f.ts ((n+j:Nat):Int)=0)):
  GS L n us os (repU n j b us') (os'.map (repF ((n+j:Nat):Int) b)):=
 h.trans ⟨h.gk.rep hL hj hb,Eqg.rep h.gk hj hb.ts hc,by rw[repU_len hj];omega,List.length_map ..⟩
theorem lx_copied {L n:Nat}{us os:List Af}(hL:LOk L)(h:Gk L n us os)(hn:1≤n)(hn':n≤24)(ho:1≤os.length)(ho':os.length≤24):
  LV Tryz.prog 33 [.agg (grA n us os)] (.agg (grA n us os)):=by
 have hu:=h.u;refine LX_run (m:=0) (n0:=0) mix Tryz.func33 rfl rfl rfl rfl ?_;conv=>whnf
 refine .c (lx_gvalid (h.ok hL hn hn' ho ho')) ?_;conv=>whnf
 refine .l [] (lx_cloneAf (l:=us) (by omega)) ?_;conv=>whnf
 refine .l [] (lx_cloneAf (l:=os) (by omega)) ?_;conv=>whnf
 refine .mk (by kernel_rfl) ?_;conv=>whnf
 exact .s ⟨rfl,rfl⟩
theorem lx_repl {L n j:Nat}{us os us' os':List Af}{b:Af}(hL:LOk L)(h:GS L n us os us' os')(hn':n≤24)(ho':os.length≤24)(hj:j<us'.length)(hb:By L (kL us'.length) ((n+j:Nat):Int) b):
  LV Tryz.prog 67 [.agg (grA n us' os'),vl (.int .i64 (j:Nat)),.agg b.A] (.agg (grA n (repU n j b us') (os'.map (repF ((n+j:Nat):Int) b)))):=by
 have hu:=h.gk.u;have hk:=h.gk.eb;have hol:=h.ol;have h1:Lv L 1 1:=Lv.int (z:=1) hL (by decide) (lR_ _);refine lx_replace (e:=30000*8400) hj (by omega) (by omega) (by omega) ⟨hb.ts,fun w=> ?_,(hb.c.mono hL (by omega:_≤8400)).bt hL⟩ (by omega) (fun f hf=> ?_) fun f hf=> ?_
 ·rcases hb.co w with h|h
  ·rw[h];exact bt0 _
  ·rw[h];exact(h1.mono hL (by omega:1≤8400)).bt hL
 ·obtain⟨i,hi,rfl⟩:=List.getElem_of_mem hf;have hlt:i<us'.length-(j+1):=by rw[List.length_drop]at hi;exact hi
  have:=h.gk.uf' hL (j:=j+1+i) (f:=(us'.drop (j+1))[i]) (by rw[List.getElem_drop,List.getElem?_eq_getElem]);exact(this.mono hL (lR_ _) (lR_ _) (Int.ofNat_le.2 (by omega))).fb hL (by omega) (by omega)
 ·exact(h.gk.of' hL hf).fb hL (by omega) (by omega)
def conS (n:Nat):Nat→Nat→List Af→List Af→List Af×List Af
 |0,_,us,os=>(us,os)
 |k+1,i,us,os=>match us[i]? with
  |none=>(us,os)
  |some f=>if f.ts=[]then conS n k i (repU n i (numS (maxQ f.c 0)) us) (os.map (repF ((n+i:Nat):Int) (numS (maxQ f.c 0))))else conS n k (i+1) us os
theorem conS_end {n k i:Nat}{us os:List Af}(h:us.length≤i):conS n k i us os=(us,os):=by
 cases k with
 |zero=>rfl
 |succ k=>rw[conS,List.getElem?_eq_none h]
theorem con_by {L n i:Nat}{us os us' os':List Af}{f:Af}(hL:LOk L)(h:GS L n us os us' os')(hf:us'[i]? =some f):By L (kL us'.length) ((n+i:Nat):Int) (numS (maxQ f.c 0)):=
 By.num ((h.gk.uf i f hf).c.max Lv.zero)
theorem con_gs {L n i:Nat}{us os us' os':List Af}{f:Af}(hL:LOk L)(h:GS L n us os us' os')(hf:us'[i]? =some f)(h0:f.ts=[]):
  GS L n us os (repU n i (numS (maxQ f.c 0)) us') (os'.map (repF ((n+i:Nat):Int) (numS (maxQ f.c 0)))):=
 h.rep hL (at_lt hf) (con_by hL h hf) (.inl fun ξ hξ=>by
  rw[hξ i f hf,ph_num,ph,h0];show maxQ (0+1*f.c) 0=1*maxQ f.c 0;rw[Rat.zero_add,Rat.one_mul,Rat.one_mul])
theorem conS_gs {L n:Nat}{us os:List Af}(hL:LOk L):∀(k i:Nat) (us' os':List Af),GS L n us os us' os'→GS L n us os (conS n k i us' os').1 (conS n k i us' os').2
 |0,_,_,_,h=>h
 |k+1,i,us',os',h=>by
  rw[conS];split
  ·exact h
  ·rename_i f hf;split
   ·rename_i h0;exact conS_gs hL k i _ _ (con_gs hL h hf h0)
   ·exact conS_gs hL k (i+1) _ _ h
theorem lx_constants {L n:Nat}{us os:List Af}(hL:LOk L)(h:Gk L n us os)(hn':n≤24)(ho':os.length≤24):
  LV Tryz.prog 34 [.agg (grA n us os)] (.agg (grA n (conS n 60 0 us os).1 (conS n 60 0 us os).2)):=by
 have hu:=h.u;refine LX_run (m:=0) (n0:=0) mix Tryz.func34 rfl rfl rfl rfl ?_;conv=>whnf
 refine .mk (Nat×Nat×List Af×List Af) (fun b=>⟨[(3,vl (.int .i64 (b.2.1:Nat))),(2,.a (.ptr 1 0)),(1,.a (.ptr 0 0))],
  [(0,.box 36 (grA n b.2.2.1 b.2.2.2)),(1,.box 36 [.d (.lit (.int .i64 0)),.d (.lit (.slice none 0 0)),.d (.lit (.slice none 0 0))])],2⟩)
  (fun b=>conS n b.1 b.2.1 b.2.2.1 b.2.2.2=conS n 60 0 us os∧2*b.2.2.1.length≤b.1+b.2.1∧b.2.1≤b.2.2.1.length∧GS L n us os b.2.2.1 b.2.2.2) (fun b=>b.1) (60,0,us,os) Wk.go ⟨rfl,by simp only;omega,zL_ _,GS.refl h⟩ fun⟨k,i,us',os'⟩ ⟨h1,h2,h3,h4⟩=> ?_
 simp only at h1 h2 h3 h4;have hu':=h4.gk.u;conv=>whnf
 refine bs (fun g0=> ?_) (fun g0=> ?_)
 ·conv=>whnf
  have hi':i<us'.length:=by simpa using g0
  obtain⟨k,rfl⟩:∃k',k=k'+1:=⟨k-1,by omega⟩;obtain⟨f,hf⟩:=at_some hi';rw[conS,hf]at h1;simp only at h1;refine .mk (i) (f.D) (rfl) (at_map hf) ?_;conv=>whnf
  conv=>whnf
  refine bs (fun g1=> ?_) (fun g1=> ?_)
  ·conv=>whnf
   have h0:f.ts=[]:=by
    have:f.ts.length=0:=by simpa using g1
    exact List.eq_nil_of_length_eq_zero this
   rw[if_pos h0]at h1;have hfl:=h4.gk.uf' hL hf;refine Cn.as (lx_rmax (.c (hfl.c.z hL (by omega))) (.c (Lv.zero (L:=L) (e:=1) |>.z hL (by omega)))) rfl ⟨vR_ _,lit0_wk,trivial⟩ rfl rfl ?_;conv=>whnf
   refine Cn.as (lx_repl (j:=i) hL h4 hn' ho' hi' (con_by hL h4 hf)) rfl ⟨vR_ _,vR_ _,WkV.agg ⟨WkA.nil,aR_ _,aR_ _,aR_ _,trivial⟩,trivial⟩ rfl rfl ?_;conv=>whnf
   refine .mk (by kernel_rfl) ?_;conv=>whnf
   have hrl:(repU n i (numS (maxQ f.c 0)) us').length=us'.length-1:=repU_len hi';have hgs:=con_gs hL h4 hf h0;generalize repU n i (numS (maxQ f.c 0)) us'=U at *
   exact⟨(k,i,U,_),Wk.go,⟨h1,by simp only;omega,by simp only;omega,hgs⟩,by simp only;omega⟩
  ·conv=>whnf
   have h0:f.ts≠[]:=by
    intro h0;rw[h0]at g1;simp at g1
   rw[if_neg h0]at h1;have ei:IntKind.i64.wrap ((i:Int)+1)=((i+1:Nat):Int):=by rw[wr64 (by omega) (by omega)];omega
   rw[show((((k+1,i,us',os'):Nat×Nat×List Af×List Af).2.1:Nat):Int)=(i:Int)from rfl,ei];exact⟨(k,i+1,us',os'),Wk.go,⟨h1,by simp only;omega,hi',h4⟩,by simp only;omega⟩
 ·conv=>whnf
  have hi':us'.length≤i:=by simpa using g0
  rw[conS_end hi']at h1;rw[←h1];exact .q ⟨rfl,rfl⟩
abbrev Gp:=List Af→List Af→List Af×List Af
def thD (D1 D2 D3:Gp)(us os:List Af):Nat→List Af×List Af
 |0=>(us,os)
 |1=>D1 us os
 |2=>D2 (D1 us os).1 (D1 us os).2
 |_=>D3 (D2 (D1 us os).1 (D1 us os).2).1 (D2 (D1 us os).1 (D1 us os).2).2
def allS (D:Gp):Nat→List Af→List Af→List Af×List Af
 |0,us,os=>(us,os)
 |k+1,us,os=>if(D us os).1.length=us.length then D us os else allS D k (D us os).1 (D us os).2
theorem allS_gs {L n:Nat}{us os:List Af}{D:Gp}(hD:∀us' os',GS L n us os us' os'→GS L n us os (D us' os').1 (D us' os').2):∀(k:Nat) (us' os':List Af),GS L n us os us' os'→GS L n us os (allS D k us' os').1 (allS D k us' os').2
 |0,_,_,h=>h
 |k+1,us',os',h=>by
  rw[allS];split
  ·exact hD _ _ h
  ·exact allS_gs hD k _ _ (hD _ _ h)
abbrev fnL (f:FuncId):D:= .lit (.func (.func f) #[] #[])
abbrev pasD:D:= .sl 1 [[fnL 34],[fnL 35],[fnL 36]]
theorem lx_all {L n:Nat}{us os:List Af}{D1 D2 D3:Gp}(h:Gk L n us os)
  (h1:∀us' os',GS L n us os us' os'→GS L n us os (D1 us' os').1 (D1 us' os').2∧(D1 us' os').1.length≤us'.length∧LV Tryz.prog 34 [.agg (grA n us' os')] (.agg (grA n (D1 us' os').1 (D1 us' os').2)))
  (h2:∀us' os',GS L n us os us' os'→GS L n us os (D2 us' os').1 (D2 us' os').2∧(D2 us' os').1.length≤us'.length∧LV Tryz.prog 35 [.agg (grA n us' os')] (.agg (grA n (D2 us' os').1 (D2 us' os').2)))
  (h3:∀us' os',GS L n us os us' os'→GS L n us os (D3 us' os').1 (D3 us' os').2∧(D3 us' os').1.length≤us'.length∧LV Tryz.prog 36 [.agg (grA n us' os')] (.agg (grA n (D3 us' os').1 (D3 us' os').2))):
  LV Tryz.prog 32 [.agg (grA n us os),.a (.d pasD)] (.agg (grA n (allS (fun us os=>thD D1 D2 D3 us os 3) 30 us os).1 (allS (fun us os=>thD D1 D2 D3 us os 3) 30 us os).2)):=by
 have hu:=h.u;refine LX_run (m:=0) (n0:=0) mix Tryz.func32 rfl rfl rfl rfl ?_;conv=>whnf
 refine .mk (Nat×List Af×List Af) (fun b=>⟨[(4,.a (.ptr 1 0)),(2,.a (.ptr 0 0)),(1,.a (.d pasD))],
  [(0,.box 36 (grA n b.2.1 b.2.2)),(1,.box 36 [.d (.lit (.int .i64 0)),.d (.lit (.slice none 0 0)),.d (.lit (.slice none 0 0))])],2⟩)
  (fun b=>allS (fun us os=>thD D1 D2 D3 us os 3) b.1 b.2.1 b.2.2=allS (fun us os=>thD D1 D2 D3 us os 3) 30 us os∧b.2.1.length<b.1∧GS L n us os b.2.1 b.2.2) (fun b=>b.1) (30,us,os) Wk.go ⟨rfl,by simp only;omega,GS.refl h⟩ fun⟨k,us',os'⟩ ⟨q1,q2,q3⟩=> ?_
 simp only at q1 q2 q3;obtain⟨k,rfl⟩:∃k',k=k'+1:=⟨k-1,by omega⟩;obtain⟨a1,b1,c1⟩:=h1 us' os' q3;obtain⟨a2,b2,c2⟩:=h2 _ _ a1;obtain⟨a3,b3,c3⟩:=h3 _ _ a2;conv=>whnf
 refine .mk Nat (fun j=>⟨[(13,vl (.int .i64 (j:Nat))),(12,vl (.int .i64 3)),(11,.a (.d pasD)),(5,vl (.int .i64 (us'.map Af.D).length)),(4,.a (.ptr 1 0)),(2,.a (.ptr 0 0)),(1,.a (.d pasD))],
  [(0,.box 36 (grA n (thD D1 D2 D3 us' os' j).1 (thD D1 D2 D3 us' os' j).2)),(1,.box 36 [.d (.lit (.int .i64 0)),.d (.lit (.slice none 0 0)),.d (.lit (.slice none 0 0))])],2⟩) (fun j=>j≤3) (fun j=>3-j) 0 Wk.go (zL_ _) fun j hj=> ?_
 conv=>whnf
 refine bs (fun g0=> ?_) (fun g0=> ?_)
 ·conv=>whnf
  have hj':j<3:=by have:=of_decide_eq_true g0;omega
  rcases(show j=0∨j=1∨j=2 by omega)with rfl|rfl|rfl
  ·refine .mk (0) ([fnL 34]) (rfl) (rfl) ?_;conv=>whnf
   conv=>whnf
   refine .c (c1) ?_;conv=>whnf
   exact⟨1,Wk.go,by omega,by omega⟩
  ·refine .mk (1) ([fnL 35]) (rfl) (rfl) ?_;conv=>whnf
   conv=>whnf
   refine .c (c2) ?_;conv=>whnf
   exact⟨2,Wk.go,by omega,by omega⟩
  ·refine .mk (2) ([fnL 36]) (rfl) (rfl) ?_;conv=>whnf
   conv=>whnf
   refine .c (c3) ?_;conv=>whnf
   exact⟨3,Wk.go,by omega,by omega⟩
 ·conv=>whnf
  have ej:j=3:=by have:=of_decide_eq_false g0;omega
  subst ej;rw[allS]at q1;have hle:(thD D1 D2 D3 us' os' 3).1.length≤us'.length:=tL_ b3 (tL_ b2 b1);have hgs:GS L n us os (thD D1 D2 D3 us' os' 3).1 (thD D1 D2 D3 us' os' 3).2:=a3
  change (if(thD D1 D2 D3 us' os' 3).1.length=us'.length then thD D1 D2 D3 us' os' 3 else allS (fun us os=>thD D1 D2 D3 us os 3) k (thD D1 D2 D3 us' os' 3).1 (thD D1 D2 D3 us' os' 3).2)=_ at q1
  generalize thD D1 D2 D3 us' os' 3=E at *
  obtain⟨eu,eo⟩:=E;simp only at q1 hle hgs;refine bs (fun g1=> ?_) (fun g1=> ?_)
  ·have he:eu.length=us'.length:=by have:=g1;simp only[List.length_map,beq_iff_eq]at this;omega
   rw[if_pos he]at q1;rw[←q1];conv=>whnf
   exact .q ⟨rfl,rfl⟩
  ·have he:¬eu.length=us'.length:=by have:=g1;simp only[List.length_map,beq_eq_false_iff_ne]at this;omega
   rw[if_neg he]at q1;conv=>whnf
   exact⟨(k,eu,eo),Wk.go,⟨q1,by simp only;omega,hgs⟩,by simp only;omega⟩
def mkT (n:Nat)(bs:List Bool)(t:Tm):List Bool:=if(n:Int)≤t.v then bs.set (t.v-n).toNat true else bs
def mkF (n:Nat)(bs:List Bool)(f:Af):List Bool:=f.ts.foldl (mkT n) bs
def mkO (n m:Nat)(os:List Af):List Bool:=os.foldl (mkF n) (List.replicate m false)
def mkB (n:Nat)(us:List Af):Nat→List Bool→List Bool
 |0,bs=>bs
 |i+1,bs=>mkB n us i (if bs.getD i false=true then mkF n bs (us.getD i z0)else bs)
def deB (n:Nat)(bs:List Bool):Nat→List Af→List Af→List Af×List Af
 |0,us,os=>(us,os)
 |i+1,us,os=>if bs.getD i false=true then deB n bs i us os else deB n bs i (repU n i (numS 0) us) (os.map (repF ((n+i:Nat):Int) (numS 0)))
def deaM (n:Nat)(us os:List Af):List Bool:=mkB n us us.length (mkO n us.length os)
def deaS (n:Nat)(us os:List Af):List Af×List Af:=deB n (deaM n us os) us.length us os
theorem mkT_len {n:Nat}{bs:List Bool}{t:Tm}:(mkT n bs t).length=bs.length:=by unfold mkT;split<;>simp
theorem mkT_up {n:Nat}{bs:List Bool}{t:Tm}{k:Nat}(h:bs.getD k false=true):(mkT n bs t).getD k false=true:=by
 unfold mkT;split
 ·rw[List.getD_eq_getElem?_getD]at h ⊢;rw[List.getElem?_set];split
  ·split
   ·rfl
   ·rename_i h1 h2;subst h1;rw[List.getElem?_eq_none (by omega)]at h;cases h
  ·exact h
 ·exact h
theorem mkT_no {n:Nat}{bs:List Bool}{t:Tm}{k:Nat}(h:t.v≠((n+k:Nat):Int)):(mkT n bs t).getD k false=bs.getD k false:=by
 unfold mkT;split
 ·rw[List.getD_eq_getElem?_getD,List.getD_eq_getElem?_getD,List.getElem?_set,if_neg (by omega)]
 ·rfl
theorem mkT_at {n:Nat}{bs:List Bool}{t:Tm}{k:Nat}(h:t.v=((n+k:Nat):Int))(hk:k<bs.length):(mkT n bs t).getD k false=true:=by
 unfold mkT;rw[if_pos (by omega),List.getD_eq_getElem?_getD,List.getElem?_set,if_pos (by omega),if_pos (by omega)];rfl
theorem tms_len {n:Nat}:∀{ts:List Tm} {bs:List Bool},(ts.foldl (mkT n) bs).length=bs.length
 |[],_=>rfl
 |t::ts,bs=>by rw[List.foldl_cons,tms_len,mkT_len]
theorem tms_up {n k:Nat}:∀{ts:List Tm} {bs:List Bool},bs.getD k false=true→(ts.foldl (mkT n) bs).getD k false=true
 |[],_,h=>h
 |t::ts,bs,h=>by rw[List.foldl_cons];exact tms_up (mkT_up h)
theorem tms_no {n k:Nat}:∀{ts:List Tm} {bs:List Bool},(∀t∈ts,t.v≠((n+k:Nat):Int))→(ts.foldl (mkT n) bs).getD k false=bs.getD k false
 |[],_,_=>rfl
 |t::ts,bs,h=>by rw[List.foldl_cons,tms_no fun s hs=>h s (List.mem_cons_of_mem _ hs),mkT_no (h t List.mem_cons_self)]
theorem tms_at {n k:Nat}:∀{ts:List Tm} {bs:List Bool},(∃t∈ts,t.v=((n+k:Nat):Int))→k<bs.length→(ts.foldl (mkT n) bs).getD k false=true
 |[],_,⟨t,h,_⟩,_=>by cases h
 |t::ts,bs,⟨s,hs,e⟩,hk=>by
  rw[List.foldl_cons];rcases List.mem_cons.1 hs with rfl|hs
  ·exact tms_up (mkT_at e hk)
  ·exact tms_at ⟨s,hs,e⟩ (by rw[mkT_len];exact hk)
theorem mkF_len {n:Nat}{bs:List Bool}{f:Af}:(mkF n bs f).length=bs.length:=tms_len
theorem mkF_at {n k:Nat}{bs:List Bool}{f:Af}(h:cof f.ts ((n+k:Nat):Int)≠0)(hk:k<bs.length):(mkF n bs f).getD k false=true:=by
 refine tms_at ?_ hk;rcases Classical.em (∃t∈f.ts,t.v=((n+k:Nat):Int))with h1|h1
 ·exact h1
 ·exact absurd (cof_none' fun t ht e=>h1 ⟨t,ht,e⟩) h
theorem os_len {n:Nat}:∀{os:List Af} {bs:List Bool},(os.foldl (mkF n) bs).length=bs.length
 |[],_=>rfl
 |f::os,bs=>by rw[List.foldl_cons,os_len,mkF_len]
theorem os_up {n k:Nat}:∀{os:List Af} {bs:List Bool},bs.getD k false=true→(os.foldl (mkF n) bs).getD k false=true
 |[],_,h=>h
 |f::os,bs,h=>by rw[List.foldl_cons];exact os_up (tms_up h)
theorem os_at {n k:Nat}{f:Af}(hc:cof f.ts ((n+k:Nat):Int)≠0):∀{os:List Af} {bs:List Bool},f∈os→k<bs.length→(os.foldl (mkF n) bs).getD k false=true
 |[],_,h,_=>by cases h
 |g::os,bs,h,hk=>by
  rw[List.foldl_cons];rcases List.mem_cons.1 h with rfl|h
  ·exact os_up (mkF_at hc hk)
  ·exact os_at hc h (by rw[mkF_len];exact hk)
structure MkI (n:Nat)(us os:List Af)(i:Nat)(bs:List Bool):Prop where
 len:bs.length=us.length
 os:∀f∈os,∀k,k<us.length→cof f.ts ((n+k:Nat):Int)≠0→bs.getD k false=true
 us:∀j f,i≤j→us[j]? =some f→bs.getD j false=true→∀k,k<us.length→cof f.ts ((n+k:Nat):Int)≠0→bs.getD k false=true
theorem mkB_ok {n:Nat}{us os:List Af}(ht:∀(j:Nat) f,us[j]? =some f→Ts ((n+j:Nat):Int) f):∀(i:Nat) (bs:List Bool),i≤us.length→MkI n us os i bs→MkI n us os 0 (mkB n us i bs)
 |0,bs,_,h=>h
 |i+1,bs,hi,h=>by
  rw[mkB];obtain⟨f,hf⟩:=at_some (l:=us) (i:=i) (by omega);rw[getD_of hf];refine mkB_ok ht i _ (by omega) ?_;split
  ·rename_i hb;have hup:∀k,bs.getD k false=true→(mkF n bs f).getD k false=true:=fun k hk=>tms_up hk;refine⟨by rw[mkF_len,h.len],fun g hg k hk hc=>hup k (h.os g hg k hk hc),fun j g hj hg hm k hk hc=> ?_⟩;rcases Nat.lt_or_ge i j with h1|h1
   ·have hno:(mkF n bs f).getD j false=bs.getD j false:=tms_no fun t ht' e=>by
     have:=((ht i f hf).cof_mem t ht').2.2.1;omega
    rw[hno]at hm;exact hup k (h.us j g (by omega) hg hm k hk hc)
   ·rw[show j=i by omega,hf]at hg;injection hg with hg;subst hg;exact mkF_at hc (by rw[h.len];exact hk)
  ·rename_i hb;refine⟨h.len,h.os,fun j g hj hg hm k hk hc=> ?_⟩;rcases Nat.lt_or_ge i j with h1|h1
   ·exact h.us j g (by omega) hg hm k hk hc
   ·rw[show j=i by omega]at hm;exact absurd hm hb
theorem deaM_ok {n:Nat}{us os:List Af}(ht:∀(j:Nat) f,us[j]? =some f→Ts ((n+j:Nat):Int) f):MkI n us os 0 (deaM n us os):=by
 refine mkB_ok ht _ _ (lR_ _) ⟨by rw[mkO,os_len,List.length_replicate],fun f hf k hk hc=>os_at hc hf (by rw[List.length_replicate];exact hk),fun j f hj hf=> ?_⟩;have:=at_lt hf;omega
structure DeI (L n:Nat)(us os:List Af)(bs:List Bool)(i:Nat)(us' os':List Af):Prop where
 gs:GS L n us os us' os'
 pre:us'.take i=us.take i
 le:i≤us'.length
 no:∀k,k<i→bs.getD k false=false→(∀f∈os',cof f.ts ((n+k:Nat):Int)=0)∧∀j f,i≤j→us'[j]? =some f→cof f.ts ((n+k:Nat):Int)=0
theorem num0_by {L k:Nat}{v:Int}:By L k v (numS 0):=By.num Lv.zero
theorem deB_step {L n:Nat}{us os us' os':List Af}{bs:List Bool}{i:Nat}(hL:LOk L)(hm:MkI n us os 0 bs)(h:DeI L n us os bs (i+1) us' os'):
  (bs.getD i false=true→DeI L n us os bs i us' os')∧(bs.getD i false=false→DeI L n us os bs i (repU n i (numS 0) us') (os'.map (repF ((n+i:Nat):Int) (numS 0)))):=by
 obtain⟨h1,h2,h3,h4⟩:=h;have hi:i<us'.length:=by omega
 have hp:us'.take i=us.take i:=by
  have:=congrArg (List.take i) h2
  rwa [List.take_take,List.take_take,Nat.min_eq_left (by omega)]at this
 have hui:us'[i]? =us[i]?:=by
  have:=congrArg (fun l=>l[i]?) h2;simp only[List.getElem?_take]at this
  rwa [if_pos (by omega),if_pos (by omega)]at this
 have hul:i<us.length:=by
  rw[List.getElem?_eq_getElem hi]at hui;exact at_lt hui.symm
 refine⟨fun hb=>⟨h1,hp,by omega,fun k hk hn=>⟨(h4 k (by omega) hn).1,fun j f hj hf=> ?_⟩⟩,fun hb=> ?_⟩
 ·rcases Nat.lt_or_ge i j with h5|h5
  ·exact(h4 k (by omega) hn).2 j f (by omega) hf
  ·rw[show j=i by omega,hui]at hf;rcases Classical.em (cof f.ts ((n+k:Nat):Int)=0)with h6|h6
   ·exact h6
   ·have:=hm.us i f (zL_ _) hf hb k (by omega) h6;rw[hn]at this;cases this
 ·obtain⟨n1,n2⟩:=h4 i (by omega) hb;have hr:=repU_len (n:=n) (b:=numS 0) hi
  have cz:∀(m:Int) (f:Af),Ts m f→((n+i:Nat):Int)≤m→∀k,k<i→cof f.ts ((n+k:Nat):Int)=0→cof (repF ((n+i:Nat):Int) (numS 0) f).ts ((n+k:Nat):Int)=0:=fun m f hf hm k hk hz=>by
   rw[cof_rep hf (show Ts ((n+i:Nat):Int) (numS 0)from trivial) hm,if_pos (by omega),hz];show 0+0*_=(0:Rat);rw[Rat.zero_mul,Rat.add_zero]
  refine⟨h1.rep hL hi num0_by (.inr ⟨fun j f hj hf=>n2 j f (by omega) hf,n1⟩),?_,by omega,fun k hk hn=>⟨fun f hf=> ?_,fun j f hj hf=> ?_⟩⟩
  ·rw[←hp,repU,List.take_append_of_le_length (by rw[List.length_take];omega),List.take_take,Nat.min_self]
  ·obtain⟨g,hg,rfl⟩:=List.mem_map.1 hf;exact cz _ g (h1.gk.of g hg).ts (by omega) k hk ((h4 k (by omega) hn).1 g hg)
  ·rw[repU_at hi,if_neg (by omega)]at hf;obtain⟨g,hg,rfl⟩:=Option.map_eq_some_iff.1 hf;exact cz _ g (h1.gk.uf (j+1) g hg).ts (by omega) k hk ((h4 k (by omega) hn).2 (j+1) g (by omega) hg)
theorem deB_gs {L n:Nat}{us os:List Af}{bs:List Bool}(hL:LOk L)(hm:MkI n us os 0 bs):∀(i:Nat) (us' os':List Af),DeI L n us os bs i us' os'→GS L n us os (deB n bs i us' os').1 (deB n bs i us' os').2
 |0,_,_,h=>h.gs
 |i+1,us',os',h=>by
  obtain⟨a,b⟩:=deB_step hL hm h;rw[deB];split
  ·rename_i hb;exact deB_gs hL hm i _ _ (a hb)
  ·rename_i hb;exact deB_gs hL hm i _ _ (b (by simpa using hb))
theorem dea0 {L n:Nat}{us os:List Af}{bs:List Bool}(h:Gk L n us os)(hm:MkI n us os 0 bs):DeI L n us os bs us.length us os:=by
 refine⟨GS.refl h,rfl,lR_ _,fun k hk hn=>⟨fun f hf=> ?_,fun j f hj hf=> ?_⟩⟩
 ·rcases Classical.em (cof f.ts ((n+k:Nat):Int)=0)with h1|h1
  ·exact h1
  ·have:=hm.os f hf k hk h1;rw[hn]at this;cases this
 ·have:=at_lt hf;omega
theorem deaS_gs {L n:Nat}{us os:List Af}(hL:LOk L)(h:Gk L n us os):GS L n us os (deaS n us os).1 (deaS n us os).2:=
 deB_gs hL (deaM_ok h.ts) _ _ _ (dea0 h (deaM_ok h.ts))
abbrev bsR (ms:List Bool):List (List D):=ms.map fun b=>[D.lit (.bool b)]
abbrev deH (n:Nat)(us os:List Af)(ms:List Bool):List (Nat×Ent):=[(0,.box 36 (grA n us os)),(1,.box 118 [.tab 2 ms.length]),(2,.tab 4 1 (bsR ms))]
theorem bsR_set {ms:List Bool}{i:Nat}:bsR (ms.set i true)=(bsR ms).set i [D.lit (.bool true)]:=by rw[bsR,List.map_set]
def mkS (n:Nat)(ms:List Bool)(ts:List Tm)(k:Nat):List Bool:=(ts.take k).foldl (mkT n) ms
theorem lx_dead1 {n:Nat}{us os:List Af}{ms:List Bool}{f:Af}(hn:n≤24)(hb:ms.length≤100)(hf:Ts ((n+ms.length:Nat):Int) f):
  LX Tryz.prog 70 [.agg f.A,.a (.ptr 0 0),.a (.ptr 1 0)] (deH n us os ms) fun v H=>v= .tup []∧H=deH n us os (mkF n ms f):=by
 have hlen:=hf.len (Int.natCast_nonneg _);refine LX_run (m:=3) (n0:=3) mix Tryz.func70 rfl rfl rfl rfl ?_;conv=>whnf
 refine .mk Nat (fun k=>⟨[(9,vl (.int .i64 (k:Nat))),(8,vl (.int .i64 (f.ts.map Tm.D).length)),(7,.a (.d (.sl 4 (f.ts.map Tm.D)))),(2,.a (.ptr 1 0)),(1,.a (.ptr 0 0))],
  [(0,.box 36 (grA n us os)),(1,.box 118 [.tab 2 ms.length]),(2,.tab 4 1 (bsR (mkS n ms f.ts k)))],3⟩) (fun k=>k≤f.ts.length) (fun k=>f.ts.length-k) 0 Wk.go (zL_ _) fun k hk=> ?_
 have hml:(mkS n ms f.ts k).length=ms.length:=tms_len;conv=>whnf
 refine bs (fun g0=> ?_) (fun g0=> ?_)
 ·conv=>whnf
  have hk':k<f.ts.length:=by simpa using g0
  obtain⟨t,ht⟩:=at_some hk';obtain⟨c1,c2,c3,c4⟩:=hf.cof_mem t (mG_ ht);have es:mkS n ms f.ts (k+1)=mkT n (mkS n ms f.ts k) t:=by unfold mkS;rw[take_snoc ht,List.foldl_append];rfl
  refine .mk (k) (t.D) (rfl) (at_map ht) ?_;conv=>whnf
  conv=>whnf
  refine bs (fun g1=> ?_) (fun g1=> ?_)
  ·conv=>whnf
   have hge:(n:Int)≤t.v:=by have:=of_decide_eq_true g1;omega
   obtain⟨b0,hb0⟩:=at_some (l:=mkS n ms f.ts k) (i:=(t.v-n).toNat) (by omega);have ew:IntKind.i64.wrap (t.v-(n:Int))=(((t.v-n).toNat:Nat):Int):=by rw[wr64 (by omega) (by omega),Int.toNat_of_nonneg (by omega)]
   have eb:bsR (mkS n ms f.ts (k+1))=(bsR (mkS n ms f.ts k)).set (t.v-n).toNat [D.lit (.bool true)]:=by rw[es,mkT,if_pos hge,bsR_set]
   refine .mk (t.v-n).toNat ew (by omega) ?_;conv=>whnf
   refine .mk (t.v-n).toNat 0 [D.lit (.bool b0)] (bsR (mkS n ms f.ts (k+1))) rfl (at_map hb0) (Nat.le_of_ble_eq_true rfl) (by rw[eb];rfl) ?_;conv=>whnf
   exact⟨k+1,Wk.go,hk',by omega⟩
  ·conv=>whnf
   have hge:¬(n:Int)≤t.v:=by have:=of_decide_eq_false g1;omega
   have eb:mkS n ms f.ts (k+1)=mkS n ms f.ts k:=by rw[es,mkT,if_neg hge]
   exact⟨k+1,by rw[eb];exact Wk.go,hk',by omega⟩
 ·conv=>whnf
  have ek:k=f.ts.length:=by have:¬k<f.ts.length:=by simpa using g0
                            omega
  have eb:mkS n ms f.ts f.ts.length=mkF n ms f:=by unfold mkS mkF;rw[List.take_length]
  have el:ms.length=(mkF n ms f).length:=mkF_len.symm;rw[ek,eb,el];exact⟨_,_,⟨rfl,rfl⟩,vR_ _,rfl,⟨⟨_,rfl,wke_refl _,rfl⟩,⟨_,rfl,wke_refl _,rfl⟩,⟨_,rfl,wke_refl _,rfl⟩,trivial⟩,rfl⟩
theorem lx_sameall {l:List Rat}(h:∀q∈l,Sz q)(hl:l.length≤1000):LV Tryz.prog 12 [.a (.d (rqsD l)),.a (.d (rqsD l))] (vl (.bool true)):=by
 refine LX_run (m:=0) (n0:=0) mix Tryz.func12 rfl rfl rfl rfl ?_;conv=>whnf
 refine bF (by simp) ?_;conv=>whnf
 refine .mk Nat (fun i=>⟨[(5,vl (.int .i64 (i:Nat))),(1,.a (.d (rqsD l))),(0,.a (.d (rqsD l)))],[],0⟩) (fun i=>i≤l.length) (fun i=>l.length-i) 0 Wk.go (zL_ _) fun i hi=> ?_;conv=>whnf
 refine bs (fun g0=> ?_) (fun g0=> ?_)
 ·conv=>whnf
  have hi':i<l.length:=by simpa using g0
  obtain⟨q,hq⟩:=at_some hi';have c:LV Tryz.prog 39 [ratV q,ratV q] (vl (.bool true)):=by
   have:=lx_zsame (c:=decide (q<0)) (xs:=limbs q.num.natAbs) (ys:=limbs (dn q)) (h q (mG_ hq)) (lR_ _)
   rwa [vB_can]at this
  refine .mk (i) ((can q).D) (rfl) (at_rq hq) ?_;conv=>whnf
  conv=>whnf
  refine .mk (i) ((can q).D) (rfl) (at_rq hq) ?_;conv=>whnf
  conv=>whnf
  refine .c (c) ?_;conv=>whnf
  refine .mk (by kernel_rfl) ?_;conv=>whnf
  exact⟨i+1,Wk.go,hi',by omega⟩
 ·conv=>whnf
  exact .q ⟨rfl,rfl⟩
theorem lx_point {raw:List Nat}{n:Nat}(h:RawOk raw)(hn:n≤1000):∃x:List Rat,(x.length=n∧∀v∈x,Bt 5 v)∧LV Tryz.prog 24 [.a (.d (bysD raw)),vl (.int .i64 (n:Nat))] (.a (.d (rqsD x))):=by
 suffices hh:LX Tryz.prog 24 [.a (.d (bysD raw)),vl (.int .i64 (n:Nat))] [] fun v H=>∃x:List Rat,(x.length=n∧∀v∈x,Bt 5 v)∧v= .a (.d (rqsD x))∧H=[] by
  obtain⟨v,H',⟨x,hx,rfl,rfl⟩,hc⟩:=hh;exact⟨x,hx,_,_,⟨rfl,rfl⟩,hc⟩
 refine LX_run (m:=0) (n0:=0) mix Tryz.func24 rfl rfl rfl rfl ?_;conv=>whnf
 refine .l [] (lx_new h) ?_;conv=>whnf
 refine .mk (Nat×Nat×List Rat) (fun b=>⟨[(7,vl (.int .i64 (b.1:Nat))),(6,.a (.own 1 3 (rqR b.2.2))),(5,.a (.ptr 0 0)),(1,vl (.int .i64 (n:Nat)))],[(0,.box 144 [.d (bysD raw),.d (.lit (.int .i64 (b.2.1:Nat)))]),(1,.arr 56 3 (rqR b.2.2).length)],2⟩)
  (fun b=>b.1≤n∧b.2.1≤raw.length∧b.2.2.length=b.1∧∀v∈b.2.2,Bt 5 v) (fun b=>n-b.1) (0,0,[]) (Wk.trans (Wk.own 6 1 56 3 rfl rfl (zL_ _)) Wk.go) ⟨zL_ _,zL_ _,rfl,fun v hv=>by cases hv⟩ fun⟨i,a,x⟩ ⟨h1,h2,h3,h4⟩=> ?_
 simp only at h1 h2 h3 h4;conv=>whnf
 refine bs (fun g0=> ?_) (fun g0=> ?_)
 ·conv=>whnf
  have hi':i<n:=by have:=of_decide_eq_true g0;omega
  obtain⟨a',q,k1,k2,c⟩:=lx_number h h2;refine .l [0] (c) ?_;conv=>whnf
  refine .mk (rqR (x++[q])) rfl (by rw[rqR,List.map_append];rfl) (by simp;omega) ?_;conv=>whnf
  exact⟨(i+1,a',x++[q]),Wk.go,⟨hi',k1,by simp[h3],fun v hv=>by
   rcases List.mem_append.1 hv with hv|hv
   ·exact h4 v hv
   ·rw[List.mem_singleton.1 hv];exact k2⟩,by simp only;omega⟩
 ·conv=>whnf
  have ei:i=n:=by have:=of_decide_eq_false g0;omega
  subst ei;exact⟨_,_,⟨x,⟨h3,h4⟩,rfl,rfl⟩,WkV.of WkA.own,rfl,trivial,rfl⟩
theorem MoOk.pt {m:Mo}(h:MoOk m){q:Rat}(hq:Bt 5 q):Lv m.L 1 q:=by
 refine Lv.of h.L ?_ (tL_ hq.1 (by decide)) rfl;have h1:q.den∣fac 36:=fac_dvd q.den_pos (tL_ hq.2 (by decide));exact Nat.dvd_trans h1 (Nat.dvd_mul_right _ _)
theorem lx_zindex {s:List Nat}{xs:List Int}(h:ShG s)(hl:xs.length=s.length):∃r e:Int,LV Tryz.prog 148 [.a (.d (shD s)),.a (.d (inD xs))] (.tup [.s (.d (.lit (.int .i64 r))),.s (.d (.lit (.int .i64 e)))]):=by
 suffices hh:LX Tryz.prog 148 [.a (.d (shD s)),.a (.d (inD xs))] [] fun v H=>∃r e:Int,v= .tup [.s (.d (.lit (.int .i64 r))),.s (.d (.lit (.int .i64 e)))]∧H=[] by
  obtain⟨v,H',⟨r,e,rfl,rfl⟩,hc⟩:=hh;exact⟨r,e,_,_,⟨rfl,rfl⟩,hc⟩
 have h4:=h.l4;refine LX_run (m:=0) (n0:=0) mix Tryz.func148 rfl rfl rfl rfl ?_;conv=>whnf
 refine .c (lx_zvalidT h) ?_;conv=>whnf
 refine bF (by simp[hl]) ?_;conv=>whnf
 refine .mk (Nat×Int) (fun b=>⟨[(7,vl (.int .i64 (b.1:Nat))),(6,vl (.int .i64 b.2)),(1,.a (.d (inD xs))),(0,.a (.d (shD s)))],[],0⟩) (fun b=>b.1≤s.length) (fun b=>s.length-b.1) (0,0) Wk.go (zL_ _) fun⟨i,z⟩ hi=> ?_;simp only at hi;conv=>whnf
 refine bs (fun g0=> ?_) (fun g0=> ?_)
 ·conv=>whnf
  have hi':i<s.length:=by simpa using g0
  obtain⟨d,hd⟩:=at_some hi';obtain⟨x,hx⟩:=at_some (l:=xs) (i:=i) (by omega);refine .mk (i) ([D.lit (.int .i64 x)]) (rfl) (at_inR hx) ?_;conv=>whnf
  conv=>whnf
  refine bs (fun g1=> ?_) (fun g1=> ?_)
  ·conv=>whnf
   refine .mk (by kernel_rfl) ?_;conv=>whnf
   exact⟨_,_,⟨_,_,rfl,rfl⟩,vR_ _,rfl,trivial,rfl⟩
  ·conv=>whnf
   refine .mk (i) ([D.lit (.int .i64 x)]) (rfl) (at_inR hx) ?_;conv=>whnf
   conv=>whnf
   refine .mk (i) ([D.lit (.int .i64 (d:Nat))]) (rfl) (at_nI hd) ?_;conv=>whnf
   conv=>whnf
   refine bs (fun g2=> ?_) (fun g2=> ?_)
   ·conv=>whnf
    refine .mk (by kernel_rfl) ?_;conv=>whnf
    exact⟨_,_,⟨_,_,rfl,rfl⟩,vR_ _,rfl,trivial,rfl⟩
   ·conv=>whnf
    refine .mk (by kernel_rfl) ?_;conv=>whnf
    refine .mk (i) ([D.lit (.int .i64 (d:Nat))]) (rfl) (at_nI hd) ?_;conv=>whnf
    conv=>whnf
    refine .mk (i) ([D.lit (.int .i64 x)]) (rfl) (at_inR hx) ?_;conv=>whnf
    conv=>whnf
    refine .mk (by kernel_rfl) ?_;conv=>whnf
    exact⟨(i+1,_),Wk.go,hi',by simp only;omega⟩
 ·conv=>whnf
  exact⟨_,_,⟨_,_,rfl,rfl⟩,vR_ _,rfl,trivial,rfl⟩
theorem zw_dim {a p k s:Nat}(h1:k≤a+2*p)(hs:1≤s)(ha:a≤100000)(hp:p≤1000):IntKind.i64.wrap (2*(p:Int))=((2*p:Nat):Int)∧IntKind.i64.wrap ((a:Int)+((2*p:Nat):Int))=((a+2*p:Nat):Int)∧IntKind.i64.wrap (((a+2*p:Nat):Int)-(k:Int))=((a+2*p-k:Nat):Int)∧
  IntKind.i64.wrap (((a+2*p-k:Nat):Int).tdiv (s:Int))=(((a+2*p-k)/s:Nat):Int)∧IntKind.i64.wrap ((((a+2*p-k)/s:Nat):Int)+1)=(((a+2*p-k)/s+1:Nat):Int):=by
 have d:=Nat.div_le_self (a+2*p-k) s;refine⟨?_,?_,?_,?_,?_⟩
 ·rw[wr64 (by omega) (by omega)];omega
 ·rw[wr64 (by omega) (by omega)];omega
 ·rw[wr64 (by omega) (by omega)];omega
 ·rw[Int.tdiv_eq_ediv_of_nonneg (by omega),←Int.natCast_ediv];generalize (a+2*p-k)/s=X at *
  rw[wr64 (by omega) (by omega)]
 ·generalize (a+2*p-k)/s=X at *
  rw[wr64 (by omega) (by omega)];omega
structure WnG (W:Wn):Prop where
 kh:1≤W.kh∧W.kh≤64
 kw:1≤W.kw∧W.kw≤64
 st:1≤W.st∧W.st≤64
 ph:W.pad<W.kh
 pw:W.pad<W.kw
 fh:W.kh≤W.h+2*W.pad
 fw:W.kw≤W.w+2*W.pad
def ZwR (s:List Nat)(kh kw st pad:Int)(v:V):Prop:=∃(L:List (List Int)) (r q e:Int),v= .tup [.s (.d (wnD L)),.s (.d (.lit (.int .i64 r))),.s (.d (.lit (.int .i64 q))),.s (.d (.lit (.int .i64 e)))]∧
 (e=0→∃W:Wn,s=[W.c,W.h,W.w]∧kh=W.kh∧kw=W.kw∧st=W.st∧pad=W.pad∧WnG W∧r=W.rows∧q=W.cols)
theorem zw_err {s:List Nat}{kh kw st pad r q e:Int}(he:e≠0){H:List (Nat×Ent)}:Rt 0 H (.tup [.s (.d (.lit (.slice none 0 0))),.s (.d (.lit (.int .i64 r))),.s (.d (.lit (.int .i64 q))),.s (.d (.lit (.int .i64 e)))]) (fun v H=>ZwR s kh kw st pad v∧H=[]):=by
 exact⟨_,_,⟨⟨[],r,q,e,rfl,fun h=>absurd h he⟩,rfl⟩,WkV.tup ⟨WkA.nil,aR_ _,aR_ _,aR_ _,trivial⟩,rfl,trivial,rfl⟩
theorem lx_zwindows {s:List Nat}{kh kw st pad:Int}(h:ShG s):∃v,ZwR s kh kw st pad v∧LV Tryz.prog 93 [.a (.d (shD s)),vl (.int .i64 kh),vl (.int .i64 kw),vl (.int .i64 st),vl (.int .i64 pad)] v:=by
 suffices hh:LX Tryz.prog 93 [.a (.d (shD s)),vl (.int .i64 kh),vl (.int .i64 kw),vl (.int .i64 st),vl (.int .i64 pad)] [] fun v H=>ZwR s kh kw st pad v∧H=[] by
  obtain⟨v,H',⟨hx,rfl⟩,hc⟩:=hh;exact⟨v,hx,_,_,⟨rfl,rfl⟩,hc⟩
 refine LX_run (m:=0) (n0:=0) mix Tryz.func93 rfl rfl rfl rfl ?_;conv=>whnf
 refine .c (lx_zvalidT h) ?_;conv=>whnf
 refine bs (fun g1=> ?_) (fun g1=> ?_)
 ·conv=>whnf
  exact zw_err (by decide)
 conv=>whnf
 refine bs (fun g2=> ?_) (fun g2=> ?_)
 ·conv=>whnf
  exact zw_err (by decide)
 conv=>whnf
 refine bs (fun g3=> ?_) (fun g3=> ?_)
 ·conv=>whnf
  exact zw_err (by decide)
 conv=>whnf
 refine bs (fun g4=> ?_) (fun g4=> ?_)
 ·conv=>whnf
  exact zw_err (by decide)
 conv=>whnf
 refine bs (fun g5=> ?_) (fun g5=> ?_)
 ·conv=>whnf
  exact zw_err (by decide)
 conv=>whnf
 refine bs (fun g6=> ?_) (fun g6=> ?_)
 ·conv=>whnf
  exact zw_err (by decide)
 conv=>whnf
 refine bs (fun g7=> ?_) (fun g7=> ?_)
 ·conv=>whnf
  exact zw_err (by decide)
 conv=>whnf
 refine bs (fun g8=> ?_) (fun g8=> ?_)
 ·conv=>whnf
  exact zw_err (by decide)
 conv=>whnf
 refine bs (fun g9=> ?_) (fun g9=> ?_)
 ·conv=>whnf
  exact zw_err (by decide)
 have g1:=of_decide_eq_false g1;have g2:=of_decide_eq_false g2;have g3:=of_decide_eq_false g3;have g4:=of_decide_eq_false g4;have g5:=of_decide_eq_false g5;have g6:=of_decide_eq_false g6;have g7:=of_decide_eq_false g7;have g8:=of_decide_eq_false g8;have g9:=of_decide_eq_false g9;obtain⟨kh,rfl⟩:∃n:Nat,kh=n:=⟨kh.toNat,by omega⟩;obtain⟨kw,rfl⟩:∃n:Nat,kw=n:=⟨kw.toNat,by omega⟩;obtain⟨st,rfl⟩:∃n:Nat,st=n:=⟨st.toNat,by omega⟩;obtain⟨pad,rfl⟩:∃n:Nat,pad=n:=⟨pad.toNat,by omega⟩;conv=>whnf
 refine bs (fun g10=> ?_) (fun g10=> ?_)
 ·conv=>whnf
  exact zw_err (by decide)
 have h3:s.length=3:=by
  have:=g10;simp only[List.length_map,bne_eq_false_iff_eq]at this;omega
 obtain⟨c,hh,ww,rfl⟩:∃c hh ww,s=[c,hh,ww]:=by
  match s,h3 with
  |[a,b,d],_=>exact⟨a,b,d,rfl⟩
 have d0:=h.d (i:=0) (d:=c) rfl;have d1:=h.d (i:=1) (d:=hh) rfl;have d2:=h.d (i:=2) (d:=ww) rfl;conv=>whnf
 refine .mk (1) ([D.lit (.int .i64 (hh:Nat))]) (rfl) (rfl) ?_;conv=>whnf
 conv=>whnf
 have u1:IntKind.i64.wrap (2*(pad:Int))=((2*pad:Nat):Int):=by rw[wr64 (by omega) (by omega)];omega
 have u2:∀a:Nat,a≤100000→IntKind.i64.wrap ((a:Int)+((2*pad:Nat):Int))=((a+2*pad:Nat):Int):=fun a ha=>by rw[wr64 (by omega) (by omega)];omega
 rw[u1,u2 hh (by omega)];refine bs (fun g11=> ?_) (fun g11=> ?_)
 ·conv=>whnf
  exact zw_err (by decide)
 conv=>whnf
 refine .mk (2) ([D.lit (.int .i64 (ww:Nat))]) (rfl) (rfl) ?_;conv=>whnf
 conv=>whnf
 rw[u1,u2 ww (by omega)];refine bs (fun g12=> ?_) (fun g12=> ?_)
 ·conv=>whnf
  exact zw_err (by decide)
 have g11:=of_decide_eq_false g11;have g12:=of_decide_eq_false g12;conv=>whnf
 obtain⟨_,_,u3,u4,u5⟩:=zw_dim (a:=hh) (p:=pad) (k:=kh) (s:=st) (by omega) (by omega) (by omega) (by omega);obtain⟨_,_,v3,v4,v5⟩:=zw_dim (a:=ww) (p:=pad) (k:=kw) (s:=st) (by omega) (by omega) (by omega) (by omega);have hR:(⟨c,hh,ww,kh,kw,st,pad⟩:Wn).rows=(hh+2*pad-kh)/st+1:=rfl;have hQ:(⟨c,hh,ww,kh,kw,st,pad⟩:Wn).cols=(ww+2*pad-kw)/st+1:=rfl;have hg:WnG ⟨c,hh,ww,kh,kw,st,pad⟩:=⟨⟨by simp only;omega,by simp only;omega⟩,⟨by simp only;omega,by simp only;omega⟩,⟨by simp only;omega,by simp only;omega⟩,by simp only;omega,by simp only;omega,by simp only;omega,by simp only;omega⟩;have rb:=Nat.div_le_self (hh+2*pad-kh) st;have qb:=Nat.div_le_self (ww+2*pad-kw) st;generalize (hh+2*pad-kh)/st=R0 at *
 generalize (ww+2*pad-kw)/st=Q0 at *
 obtain⟨R,eR⟩:∃R,R=R0+1:=⟨_,rfl⟩;obtain⟨Q,eQ⟩:∃Q,Q=Q0+1:=⟨_,rfl⟩;rw[←eR]at u5 hR;rw[←eQ]at v5 hQ;have R1:R≤20000:=by omega
 have Q1:Q≤20000:=by omega
 have p1:R*Q≤20000*20000:=Nat.mul_le_mul R1 Q1;have p2:R*Q*c≤20000*20000*16384:=Nat.mul_le_mul p1 d0.2;have p3:R*Q*c*kh≤20000*20000*16384*64:=Nat.mul_le_mul p2 hg.kh.2;have p4:R*Q*c*kh*kw≤20000*20000*16384*64*64:=Nat.mul_le_mul p3 hg.kw.2;have m1:IntKind.i64.wrap ((R:Int)*(Q:Int))=((R*Q:Nat):Int):=by rw[←Int.natCast_mul,wrN (by omega)]
 have m2:IntKind.i64.wrap (((R*Q:Nat):Int)*(c:Int))=((R*Q*c:Nat):Int):=by rw[←Int.natCast_mul,wrN (by omega)]
 have m3:IntKind.i64.wrap (((R*Q*c:Nat):Int)*(kh:Int))=((R*Q*c*kh:Nat):Int):=by rw[←Int.natCast_mul,wrN (by omega)]
 have m4:IntKind.i64.wrap (((R*Q*c*kh:Nat):Int)*(kw:Int))=((R*Q*c*kh*kw:Nat):Int):=by rw[←Int.natCast_mul,wrN (by omega)]
 refine .mk (1) ([D.lit (.int .i64 (hh:Nat))]) (rfl) (rfl) ?_;conv=>whnf
 conv=>whnf
 rw[u1,u2 hh (by omega),u3];refine .mk _ ⟨by omega,rfl⟩ u4 ?_;conv=>whnf
 refine .mk (2) ([D.lit (.int .i64 (ww:Nat))]) (rfl) (rfl) ?_;conv=>whnf
 conv=>whnf
 rw[u1,u2 ww (by omega),v3];refine .mk _ ⟨by omega,rfl⟩ v4 ?_;conv=>whnf
 refine .mk (by kernel_rfl) ?_;conv=>whnf
 rw[u5,v5,m1];refine .mk (0) ([D.lit (.int .i64 (c:Nat))]) (rfl) (rfl) ?_;conv=>whnf
 conv=>whnf
 rw[m2,m3,m4];refine bs (fun g13=> ?_) (fun g13=> ?_)
 ·conv=>whnf
  exact zw_err (by decide)
 conv=>whnf
 have khw:kh*kw≤64*64:=Nat.mul_le_mul hg.kh.2 hg.kw.2;refine .mk (Nat×List (List Int)) (fun b=>⟨[(17,vl (.int .i64 (b.1:Nat))),(16,.a (.own 0 1 (wnR b.2))),(4,vl (.int .i64 (pad:Nat))),(3,vl (.int .i64 (st:Nat))),(2,vl (.int .i64 (kw:Nat))),(1,vl (.int .i64 (kh:Nat))),(0,.a (.d (shD [c,hh,ww]))),(14,vl (.int .i64 (R:Nat))),(15,vl (.int .i64 (Q:Nat)))],[(0,.arr 22 1 (wnR b.2).length)],1⟩) (fun b=>b.1≤R∧b.2.length≤b.1*Q) (fun b=>R-b.1) (0,[])
  (Wk.trans (Wk.own 16 0 22 1 rfl rfl (zL_ _)) Wk.go) ⟨zL_ _,zL_ _⟩ fun⟨r,L⟩ ⟨r1,r2⟩=> ?_
 simp only at r1 r2;conv=>whnf
 refine bs (fun t0=> ?_) (fun t0=> ?_)
 ·conv=>whnf
  have r3:r<R:=by have:=of_decide_eq_true t0;omega
  have r4:(r+1)*Q≤R*Q:=Nat.mul_le_mul_right _ r3;refine .mk (Nat×List (List Int)) (fun b=>⟨[(18,vl (.int .i64 (b.1:Nat))),(17,vl (.int .i64 (r:Nat))),(16,.a (.own 0 1 (wnR b.2))),(4,vl (.int .i64 (pad:Nat))),(3,vl (.int .i64 (st:Nat))),(2,vl (.int .i64 (kw:Nat))),(1,vl (.int .i64 (kh:Nat))),(0,.a (.d (shD [c,hh,ww]))),(14,vl (.int .i64 (R:Nat))),(15,vl (.int .i64 (Q:Nat)))],[(0,.arr 22 1 (wnR b.2).length)],1⟩) (fun b=>b.1≤Q∧b.2.length≤r*Q+b.1) (fun b=>Q-b.1) (0,L)
   Wk.go ⟨zL_ _,by simp only;omega⟩ fun⟨q,L⟩ ⟨q1,q2⟩=> ?_
  simp only at q1 q2;conv=>whnf
  refine bs (fun t1=> ?_) (fun t1=> ?_)
  ·conv=>whnf
   have q3:q<Q:=by have:=of_decide_eq_true t1;omega
   rw[Nat.add_mul,Nat.one_mul]at r4;refine .mk (Nat×List Int) (fun b=>⟨[(20,vl (.int .i64 (b.1:Nat))),(19,.a (.own 1 1 (inR b.2))),(18,vl (.int .i64 (q:Nat))),(17,vl (.int .i64 (r:Nat))),(16,.a (.own 0 1 (wnR L))),(4,vl (.int .i64 (pad:Nat))),(3,vl (.int .i64 (st:Nat))),(2,vl (.int .i64 (kw:Nat))),(1,vl (.int .i64 (kh:Nat))),(0,.a (.d (shD [c,hh,ww]))),(14,vl (.int .i64 (R:Nat))),(15,vl (.int .i64 (Q:Nat)))],[(1,.arr 3 1 (inR b.2).length),(0,.arr 22 1 (wnR L).length)],2⟩) (fun b=>b.1≤c∧b.2.length≤b.1*(kh*kw)) (fun b=>c-b.1) (0,[])
    (Wk.trans (Wk.own 19 1 3 1 rfl rfl (by decide)) Wk.go) ⟨zL_ _,zL_ _⟩ fun⟨ch,l⟩ ⟨c1,c2⟩=> ?_
   simp only at c1 c2;have cb:ch*(kh*kw)≤16384*4096:=Nat.mul_le_mul (by omega) (by omega);conv=>whnf
   refine .mk (0) ([D.lit (.int .i64 (c:Nat))]) (rfl) (rfl) ?_;conv=>whnf
   conv=>whnf
   refine bs (fun t2=> ?_) (fun t2=> ?_)
   ·conv=>whnf
    have c3:ch<c:=by have:=of_decide_eq_true t2;omega
    refine .mk (Nat×List Int) (fun b=>⟨[(21,vl (.int .i64 (b.1:Nat))),(20,vl (.int .i64 (ch:Nat))),(19,.a (.own 1 1 (inR b.2))),(18,vl (.int .i64 (q:Nat))),(17,vl (.int .i64 (r:Nat))),(16,.a (.own 0 1 (wnR L))),(4,vl (.int .i64 (pad:Nat))),(3,vl (.int .i64 (st:Nat))),(2,vl (.int .i64 (kw:Nat))),(1,vl (.int .i64 (kh:Nat))),(0,.a (.d (shD [c,hh,ww]))),(14,vl (.int .i64 (R:Nat))),(15,vl (.int .i64 (Q:Nat)))],[(1,.arr 3 1 (inR b.2).length),(0,.arr 22 1 (wnR L).length)],2⟩) (fun b=>b.1≤kh∧b.2.length≤ch*(kh*kw)+b.1*kw) (fun b=>kh-b.1) (0,l)
     Wk.go ⟨zL_ _,by simp only;omega⟩ fun⟨i,l⟩ ⟨i1,i2⟩=> ?_
    simp only at i1 i2;have ib:i*kw≤64*64:=Nat.mul_le_mul (by have:=hg.kh.2;simp only at this;omega) hg.kw.2;conv=>whnf
    refine bs (fun t3=> ?_) (fun t3=> ?_)
    ·conv=>whnf
     have i3:i<kh:=by have:=of_decide_eq_true t3;omega
     refine .mk (Nat×List Int) (fun b=>⟨[(22,vl (.int .i64 (b.1:Nat))),(21,vl (.int .i64 (i:Nat))),(20,vl (.int .i64 (ch:Nat))),(19,.a (.own 1 1 (inR b.2))),(18,vl (.int .i64 (q:Nat))),(17,vl (.int .i64 (r:Nat))),(16,.a (.own 0 1 (wnR L))),(4,vl (.int .i64 (pad:Nat))),(3,vl (.int .i64 (st:Nat))),(2,vl (.int .i64 (kw:Nat))),(1,vl (.int .i64 (kh:Nat))),(0,.a (.d (shD [c,hh,ww]))),(14,vl (.int .i64 (R:Nat))),(15,vl (.int .i64 (Q:Nat)))],[(1,.arr 3 1 (inR b.2).length),(0,.arr 22 1 (wnR L).length)],2⟩) (fun b=>b.1≤kw∧b.2.length≤ch*(kh*kw)+i*kw+b.1) (fun b=>kw-b.1) (0,l)
      Wk.go ⟨zL_ _,by simp only;omega⟩ fun⟨k,l⟩ ⟨k1,k2⟩=> ?_
     simp only at k1 k2;have kb:=hg.kw.2;simp only at kb;conv=>whnf
     refine bs (fun t4=> ?_) (fun t4=> ?_)
     ·conv=>whnf
      have k3:k<kw:=by have:=of_decide_eq_true t4;omega
      obtain⟨z,e,ci⟩:=lx_zindex (s:=[c,hh,ww]) (xs:=[(ch:Int),IntKind.i64.wrap (IntKind.i64.wrap (IntKind.i64.wrap ((r:Int)*(st:Int))+(i:Int))-(pad:Int)),IntKind.i64.wrap (IntKind.i64.wrap (IntKind.i64.wrap ((q:Int)*(st:Int))+(k:Int))-(pad:Int))]) h rfl;refine .c (ci) ?_;conv=>whnf
      refine bs (fun t5=> ?_) (fun t5=> ?_)
      ·conv=>whnf
       refine .mk (inR (l++[-1])) rfl (by rw[inR,List.map_append];rfl) (by simp;omega) ?_;conv=>whnf
       exact⟨(k+1,l++[-1]),Wk.go,⟨k3,by simp;omega⟩,by simp only;omega⟩
      ·conv=>whnf
       refine .mk (inR (l++[z])) rfl (by rw[inR,List.map_append];rfl) (by simp;omega) ?_;conv=>whnf
       exact⟨(k+1,l++[z]),Wk.go,⟨k3,by simp;omega⟩,by simp only;omega⟩
     ·conv=>whnf
      have ek:k=kw:=by have:=of_decide_eq_false t4;omega
      exact⟨(i+1,l),Wk.go,⟨i3,by simp only;rw[Nat.add_mul];omega⟩,by simp only;omega⟩
    ·conv=>whnf
     have ei:i=kh:=by have:=of_decide_eq_false t3;omega
     subst ei;exact⟨(ch+1,l),Wk.go,⟨c3,by simp only;rw[Nat.add_mul];omega⟩,by simp only;omega⟩
   ·conv=>whnf
    refine .mk (wnR (L++[l])) rfl (by rw[wnR,List.map_append];rfl) (by simp;omega) ?_;conv=>whnf
    exact⟨(q+1,L++[l]),Wk.go,⟨q3,by simp;omega⟩,by simp only;omega⟩
  ·conv=>whnf
   have eq:q=Q:=by have:=of_decide_eq_false t1;omega
   exact⟨(r+1,L),Wk.go,⟨r3,by simp only;rw[Nat.add_mul];omega⟩,by simp only;omega⟩
 ·conv=>whnf
  exact⟨_,_,⟨⟨L,R,Q,0,rfl,fun _=>⟨⟨c,hh,ww,kh,kw,st,pad⟩,rfl,rfl,rfl,rfl,rfl,hg,by rw[hR],by rw[hQ]⟩⟩,rfl⟩,WkV.tup ⟨WkA.own,aR_ _,aR_ _,aR_ _,trivial⟩,rfl,trivial,rfl⟩
abbrev rwR (l:List Rw):List (List D):=l.map Rw.D
abbrev rwD (l:List Rw):D:= .sl 3 (rwR l)
def Sml (l:List Rw):Prop:=∀x∈l,x.n.length≤1∧x.d.length≤1
theorem Sml.sm {l:List Rw}(h:Sml l){x:Rw}(hx:x∈l):x.sm:=by
 have:=h x hx;exact⟨by omega,by omega⟩
theorem lx_zcanonical {l:List Rw}(h:Sml l)(hl:l.length≤1000):LV Tryz.prog 146 [.a (.d (rwD l))] (vl (.bool (l.all Rw.ok))):=by
 refine LX_run (m:=0) (n0:=0) mix Tryz.func146 rfl rfl rfl rfl ?_;conv=>whnf
 refine .mk Nat (fun i=>⟨[(3,vl (.int .i64 (i:Nat))),(0,.a (.d (rwD l)))],[],0⟩) (fun i=>i≤l.length∧(l.take i).all Rw.ok=true) (fun i=>l.length-i) 0 Wk.go ⟨zL_ _,rfl⟩ fun i ⟨hi,ha⟩=> ?_;conv=>whnf
 refine bs (fun g0=> ?_) (fun g0=> ?_)
 ·conv=>whnf
  have hi':i<l.length:=by simpa using g0
  obtain⟨x,hx⟩:=at_some hi';refine .mk (i) (x.D) (rfl) (at_map hx) ?_;conv=>whnf
  conv=>whnf
  refine .c (lx_zok (h.sm (mG_ hx))) ?_;conv=>whnf
  refine bs (fun g1=> ?_) (fun g1=> ?_)
  ·have g1':x.ok=true:=g1;conv=>whnf
   exact⟨i+1,Wk.go,⟨hi',by rw[take_snoc hx,List.all_append,ha];simp[g1']⟩,by omega⟩
  ·have g1':x.ok=false:=g1;have e:l.all Rw.ok=false:=by
    rw[List.all_eq_false];exact⟨x,mG_ hx,by rw[g1'];decide⟩
   rw[e];conv=>whnf
   exact .q ⟨rfl,rfl⟩
 ·conv=>whnf
  have ei:i=l.length:=by have:¬i<l.length:=by simpa using g0
                         omega
  rw[ei,List.take_length]at ha;rw[ha];exact .q ⟨rfl,rfl⟩
theorem lx_within {z a b:Int}:LV Tryz.prog 145 [vl (.int .i64 z),vl (.int .i64 a),vl (.int .i64 b)] (vl (.bool (decide (a≤z∧z≤b)))):=by
 refine LX_run (m:=0) (n0:=0) mix Tryz.func145 rfl rfl rfl rfl ?_;conv=>whnf
 refine bs (fun g0=> ?_) (fun g0=> ?_)
 ·conv=>whnf
  refine bs (fun g1=> ?_) (fun g1=> ?_)
  ·have e:decide (a≤z∧z≤b)=true:=decide_eq_true ⟨of_decide_eq_true g0,of_decide_eq_true g1⟩;rw[e];conv=>whnf
   exact .q ⟨rfl,rfl⟩
  ·have e:decide (a≤z∧z≤b)=false:=decide_eq_false fun h=>of_decide_eq_false g1 h.2;rw[e];conv=>whnf
   exact .q ⟨rfl,rfl⟩
 ·have e:decide (a≤z∧z≤b)=false:=decide_eq_false fun h=>of_decide_eq_false g0 h.1;rw[e];conv=>whnf
  exact .q ⟨rfl,rfl⟩
theorem lx_zmult {n m:Nat}(hm:1≤m)(hn:n≤1000000)(hm':m≤1000000000):LV Tryz.prog 147 [vl (.int .i64 (n:Nat)),vl (.int .i64 (m:Nat))] (vl (.bool (decide (1≤n∧n≤16384∧n % m=0)))):=by
 refine LX_run (m:=0) (n0:=0) mix Tryz.func147 rfl rfl rfl rfl ?_;conv=>whnf
 refine bs (fun g0=> ?_) (fun g0=> ?_)
 ·have h0:=of_decide_eq_true g0;conv=>whnf
  refine bs (fun g1=> ?_) (fun g1=> ?_)
  ·have h1:=of_decide_eq_true g1;conv=>whnf
   refine .mk ((n % m:Nat):Int) ⟨by omega,rfl⟩ (by rw[Int.tmod_eq_emod_of_nonneg (by omega)];rfl) ?_;conv=>whnf
   refine bs (fun g2=> ?_) (fun g2=> ?_)
   ·have h2:n % m=0:=by have:=g2;simp only[beq_iff_eq]at this;omega
    have e:decide (1≤n∧n≤16384∧n % m=0)=true:=decide_eq_true ⟨by omega,by omega,h2⟩;rw[e];conv=>whnf
    exact .q ⟨rfl,rfl⟩
   ·have h2:n % m≠0:=by have:=g2;simp only[beq_eq_false_iff_ne]at this;omega
    have e:decide (1≤n∧n≤16384∧n % m=0)=false:=decide_eq_false fun h=>h2 h.2.2;rw[e];conv=>whnf
    exact .q ⟨rfl,rfl⟩
  ·have h1:=of_decide_eq_false g1;have e:decide (1≤n∧n≤16384∧n % m=0)=false:=decide_eq_false fun h=>h1 (by omega);rw[e];conv=>whnf
   exact .q ⟨rfl,rfl⟩
 ·have h0:=of_decide_eq_false g0;have e:decide (1≤n∧n≤16384∧n % m=0)=false:=decide_eq_false fun h=>h0 (by omega);rw[e];conv=>whnf
  exact .q ⟨rfl,rfl⟩
structure RL where
 kind:Int
 fr:Int
 out:Int
 kh:Int
 kw:Int
 st:Int
 pad:Int
 ws:List Rw
 bs:List Rw
abbrev RL.D (l:RL):List D:=[.lit (.int .i64 l.kind),.lit (.int .i64 l.fr),.lit (.int .i64 l.out),.lit (.int .i64 l.kh),.lit (.int .i64 l.kw),.lit (.int .i64 l.st),.lit (.int .i64 l.pad),rwD l.ws,rwD l.bs]
abbrev RL.A (l:RL):List A:=[.d (.lit (.int .i64 l.kind)),.d (.lit (.int .i64 l.fr)),.d (.lit (.int .i64 l.out)),.d (.lit (.int .i64 l.kh)),.d (.lit (.int .i64 l.kw)),.d (.lit (.int .i64 l.st)),.d (.lit (.int .i64 l.pad)),.d (rwD l.ws),.d (rwD l.bs)]
structure RLb (x:RL):Prop where
 ws:x.ws.length≤80
 bs:x.bs.length≤24
 out:x.out≤24
 kh:x.kh≤6
 kw:x.kw≤6
 st:x.st≤6
 pad:x.pad≤6
 sw:Sml x.ws
 sb:Sml x.bs
def IsL (x:RL)(i:Nat):Prop:=∃lay:Lay,x.D=(Lay.ly lay).D∧LayV i lay∧x.ws.all Rw.ok=true∧x.bs.all Rw.ok=true
theorem rw_can {l:List Rw}(h:l.all Rw.ok=true):l.map Rw.D=rqR (l.map Rw.q):=by
 rw[rqR,List.map_map];exact List.map_congr_left fun x hx=>congrArg Rw.D (ok_can (List.all_eq_true.1 h x hx))
theorem zl_false {x:RL}{i:Nat}{H:List (Nat×Ent)}:Rt 0 H (vl (.bool false)) (fun v H=>∃b,(b=true→IsL x i)∧v=vl (.bool b)∧H=[]):=
 ⟨_,_,⟨false,(fun h=>by cases h),rfl,rfl⟩,vR_ _,rfl,trivial,rfl⟩
theorem zl_true {x:RL}{i:Nat}{H:List (Nat×Ent)}(h:IsL x i):Rt 0 H (vl (.bool true)) (fun v H=>∃b,(b=true→IsL x i)∧v=vl (.bool b)∧H=[]):=
 ⟨_,_,⟨true,(fun _=>h),rfl,rfl⟩,vR_ _,rfl,trivial,rfl⟩
theorem zl_of {x:RL}{i:Nat}(hh:LX Tryz.prog 90 [.agg x.A,vl (.int .i64 (i:Nat))] [] fun v H=>∃b,(b=true→IsL x i)∧v=vl (.bool b)∧H=[]):∃b,(b=true→IsL x i)∧LV Tryz.prog 90 [.agg x.A,vl (.int .i64 (i:Nat))] (vl (.bool b)):=by
 obtain⟨v,H',⟨b,hb,rfl,rfl⟩,hc⟩:=hh;exact⟨b,hb,_,_,⟨rfl,rfl⟩,hc⟩
theorem isl_bare {k fr out kh kw st pad:Int}{ws bs':List Rw}{i:Nat}(hk:k=5∨k=6)(h1:(((rwR ws).length:Int)==0)=true)(h2:(((rwR bs').length:Int)==0)=true)(h3:(kh==0)=true)(h4:(kw==0)=true)(h5:(st==0)=true)(h6:(pad==0)=true)(h7:(fr==0)=true)(h8:(out==0)=true):IsL ⟨k,fr,out,kh,kw,st,pad,ws,bs'⟩ i:=by
 simp only[beq_iff_eq,List.length_map]at h1 h2 h3 h4 h5 h6 h7 h8;obtain rfl:=List.eq_nil_of_length_eq_zero (show ws.length=0 by omega);obtain rfl:=List.eq_nil_of_length_eq_zero (show bs'.length=0 by omega);subst h3 h4 h5 h6 h7 h8;rcases hk with rfl|rfl
 ·exact⟨.relu,rfl,trivial,rfl,rfl⟩
 ·exact⟨.flat,rfl,trivial,rfl,rfl⟩
theorem zl_relu {fr out kh kw st pad:Int}{ws bs':List Rw}{i:Nat}{k:Int}(hk:k=5∨k=6)(h:RLb ⟨k,fr,out,kh,kw,st,pad,ws,bs'⟩)(hi:i≤64):∃b,(b=true→IsL ⟨k,fr,out,kh,kw,st,pad,ws,bs'⟩ i)∧LV Tryz.prog 90 [.agg (RL.A ⟨k,fr,out,kh,kw,st,pad,ws,bs'⟩),vl (.int .i64 (i:Nat))] (vl (.bool b)):=by
 refine zl_of ?_;have cw:=lx_zcanonical h.sw (by have:=h.ws;omega);have cb:=lx_zcanonical h.sb (by have:=h.bs;omega);simp only at cw cb;rcases hk with rfl|rfl
 all_goals
  refine LX_run (m:=0) (n0:=0) mix Tryz.func90 rfl rfl rfl rfl ?_;conv=>whnf
  repeat' first
   |(refine Cn.c lx_within ?_;conv=>whnf)
   |(refine Cn.c cw ?_;conv=>whnf)
   |(refine Cn.c cb ?_;conv=>whnf)
   |exact zl_false
   |(refine bs (fun _=> ?_) (fun _=> ?_)<;>conv=>whnf)
 all_goals exact zl_true (isl_bare (by decide) (by assumption) (by assumption) (by assumption) (by assumption) (by assumption) (by assumption) (by assumption) (by assumption))
theorem isl_pool {k fr out kh kw st pad:Int}{ws bs':List Rw}{i:Nat}(hk:k=3∨k=4)(a1:decide (1≤kh∧kh≤64)=true)(a2:decide (1≤kw∧kw≤64)=true)(a3:decide (1≤st∧st≤64)=true)(h1:(((rwR ws).length:Int)==0)=true)(h2:(((rwR bs').length:Int)==0)=true)(h6:(pad==0)=true)(h7:(fr==0)=true)(h8:(out==0)=true):IsL ⟨k,fr,out,kh,kw,st,pad,ws,bs'⟩ i:=by
 have a1:=of_decide_eq_true a1;have a2:=of_decide_eq_true a2;have a3:=of_decide_eq_true a3;simp only[beq_iff_eq,List.length_map]at h1 h2 h6 h7 h8;obtain rfl:=List.eq_nil_of_length_eq_zero (show ws.length=0 by omega);obtain rfl:=List.eq_nil_of_length_eq_zero (show bs'.length=0 by omega);obtain⟨kh,rfl⟩:∃n:Nat,kh=n:=⟨kh.toNat,by omega⟩;obtain⟨kw,rfl⟩:∃n:Nat,kw=n:=⟨kw.toNat,by omega⟩;obtain⟨st,rfl⟩:∃n:Nat,st=n:=⟨st.toNat,by omega⟩;subst h6 h7 h8;have v:(1≤kh∧kh≤64)∧(1≤kw∧kw≤64)∧(1≤st∧st≤64):=by omega
 rcases hk with rfl|rfl
 ·exact⟨.mx kh kw st,rfl,v,rfl,rfl⟩
 ·exact⟨.av kh kw st,rfl,v,rfl,rfl⟩
theorem isl_add {fr out kh kw st pad:Int}{ws bs':List Rw}{i:Nat}(hi:i≤64)(h1:(((rwR ws).length:Int)==0)=true)(h2:(((rwR bs').length:Int)==0)=true)(h3:(kh==0)=true)(h4:(kw==0)=true)(h5:(st==0)=true)(h6:(pad==0)=true)(h7:decide (-1≤fr∧fr≤IntKind.i64.wrap ((i:Int)-1))=true)(h8:(out==0)=true):IsL ⟨7,fr,out,kh,kw,st,pad,ws,bs'⟩ i:=by
 have h7:=of_decide_eq_true h7;rw[wr64 (by omega) (by omega)]at h7;simp only[beq_iff_eq,List.length_map]at h1 h2 h3 h4 h5 h6 h8;obtain rfl:=List.eq_nil_of_length_eq_zero (show ws.length=0 by omega);obtain rfl:=List.eq_nil_of_length_eq_zero (show bs'.length=0 by omega);subst h3 h4 h5 h6 h8;exact⟨.add fr,rfl,(by omega: -1≤fr∧fr<(i:Int)),rfl,rfl⟩
theorem zl_pool {k fr out kh kw st pad:Int}{ws bs':List Rw}{i:Nat}(hk:k=3∨k=4)(h:RLb ⟨k,fr,out,kh,kw,st,pad,ws,bs'⟩)(hi:i≤64):∃b,(b=true→IsL ⟨k,fr,out,kh,kw,st,pad,ws,bs'⟩ i)∧LV Tryz.prog 90 [.agg (RL.A ⟨k,fr,out,kh,kw,st,pad,ws,bs'⟩),vl (.int .i64 (i:Nat))] (vl (.bool b)):=by
 refine zl_of ?_;have cw:=lx_zcanonical h.sw (by have:=h.ws;omega);have cb:=lx_zcanonical h.sb (by have:=h.bs;omega);simp only at cw cb;rcases hk with rfl|rfl
 all_goals
  refine LX_run (m:=0) (n0:=0) mix Tryz.func90 rfl rfl rfl rfl ?_;conv=>whnf
  repeat' first
   |exact zl_false
   |(refine bT (by assumption) ?_;conv=>whnf)
   |(refine bF (by assumption) ?_;conv=>whnf)
   |(refine Cn.c lx_within ?_;conv=>whnf)
   |(refine Cn.c cw ?_;conv=>whnf)
   |(refine Cn.c cb ?_;conv=>whnf)
   |(refine bs (fun _=> ?_) (fun _=> ?_)<;>conv=>whnf)
 all_goals exact zl_true (isl_pool (by decide) (by assumption) (by assumption) (by assumption) (by assumption) (by assumption) (by assumption) (by assumption) (by assumption))
theorem zl_add {k fr out kh kw st pad:Int}{ws bs':List Rw}{i:Nat}(hk:k=7)(h:RLb ⟨k,fr,out,kh,kw,st,pad,ws,bs'⟩)(hi:i≤64):∃b,(b=true→IsL ⟨k,fr,out,kh,kw,st,pad,ws,bs'⟩ i)∧LV Tryz.prog 90 [.agg (RL.A ⟨k,fr,out,kh,kw,st,pad,ws,bs'⟩),vl (.int .i64 (i:Nat))] (vl (.bool b)):=by
 refine zl_of ?_;have cw:=lx_zcanonical h.sw (by have:=h.ws;omega);have cb:=lx_zcanonical h.sb (by have:=h.bs;omega);simp only at cw cb;subst hk
 ·skip
  refine LX_run (m:=0) (n0:=0) mix Tryz.func90 rfl rfl rfl rfl ?_;conv=>whnf
  repeat' first
   |exact zl_false
   |(refine bT (by assumption) ?_;conv=>whnf)
   |(refine bF (by assumption) ?_;conv=>whnf)
   |(refine Cn.c lx_within ?_;conv=>whnf)
   |(refine Cn.c cw ?_;conv=>whnf)
   |(refine Cn.c cb ?_;conv=>whnf)
   |(refine bs (fun _=> ?_) (fun _=> ?_)<;>conv=>whnf)
  all_goals exact zl_true (isl_add hi (by assumption) (by assumption) (by assumption) (by assumption) (by assumption) (by assumption) (by assumption) (by assumption))
theorem zl_none {k fr out kh kw st pad:Int}{ws bs':List Rw}{i:Nat}(hk:(k==1)=false∧(k==2)=false∧(k==3)=false∧(k==4)=false∧(k==5)=false∧(k==6)=false∧(k==7)=false)(h:RLb ⟨k,fr,out,kh,kw,st,pad,ws,bs'⟩)(hi:i≤64):∃b,(b=true→IsL ⟨k,fr,out,kh,kw,st,pad,ws,bs'⟩ i)∧LV Tryz.prog 90 [.agg (RL.A ⟨k,fr,out,kh,kw,st,pad,ws,bs'⟩),vl (.int .i64 (i:Nat))] (vl (.bool b)):=by
 refine zl_of ?_;have cw:=lx_zcanonical h.sw (by have:=h.ws;omega);have cb:=lx_zcanonical h.sb (by have:=h.bs;omega);simp only at cw cb;obtain⟨k1,k2,k3,k4,k5,k6,k7⟩:=hk
 ·skip
  refine LX_run (m:=0) (n0:=0) mix Tryz.func90 rfl rfl rfl rfl ?_;conv=>whnf
  repeat' first
   |exact zl_false
   |(refine bT (by assumption) ?_;conv=>whnf)
   |(refine bF (by assumption) ?_;conv=>whnf)
   |(refine Cn.c lx_within ?_;conv=>whnf)
   |(refine Cn.c cw ?_;conv=>whnf)
   |(refine Cn.c cb ?_;conv=>whnf)
   |(refine bs (fun _=> ?_) (fun _=> ?_)<;>conv=>whnf)
theorem lx_zmultI {z m:Int}(hm:1≤m)(hm':m≤1000000000)(hz:0≤z)(hz':z≤1000000):LV Tryz.prog 147 [vl (.int .i64 z),vl (.int .i64 m)] (vl (.bool (decide (1≤z∧z≤16384∧z % m=0)))):=by
 obtain⟨z,rfl⟩:∃n:Nat,z=n:=⟨z.toNat,by omega⟩;obtain⟨m,rfl⟩:∃n:Nat,m=n:=⟨m.toNat,by omega⟩;have:=lx_zmult (n:=z) (m:=m) (by omega) (by omega) (by omega);have e:decide (1≤(z:Int)∧(z:Int)≤16384∧(z:Int) % (m:Int)=0)=decide (1≤z∧z≤16384∧z % m=0):=by
  rw[←Int.natCast_emod]
  congr 1
  exact propext (by omega)
 rw[e];exact this
theorem isl_dense {fr out kh kw st pad:Int}{ws bs':List Rw}{i:Nat}(h3:(kh==0)=true)(h4:(kw==0)=true)(h5:(st==0)=true)(h6:(pad==0)=true)(h7:(fr==0)=true)(h8:decide (1≤out∧out≤16384)=true)(h9:(((rwR bs').length:Int)==out)=true)
  (h10:decide (1≤((rwR ws).length:Int)∧((rwR ws).length:Int)≤16384∧((rwR ws).length:Int) % out=0)=true) (o1:ws.all Rw.ok=true) (o2:bs'.all Rw.ok=true):IsL ⟨1,fr,out,kh,kw,st,pad,ws,bs'⟩ i:=by
 have h8:=of_decide_eq_true h8;have h10:=of_decide_eq_true h10;simp only[beq_iff_eq,List.length_map]at h3 h4 h5 h6 h7 h9 h10;subst h3 h4 h5 h6 h7 h9;have e1:=rw_can o1;have e2:=rw_can o2;refine⟨.dense (ws.map Rw.q) (bs'.map Rw.q),?_,⟨⟨by rw[List.length_map];omega,by rw[List.length_map];omega⟩,⟨by rw[List.length_map];omega,by rw[List.length_map];omega⟩,?_⟩,o1,o2⟩
 ·have f1:rwD ws=rqsD (ws.map Rw.q):=congrArg (D.sl 3) e1;have f2:rwD bs'=rqsD (bs'.map Rw.q):=congrArg (D.sl 3) e2;simp only[RL.D,Ly.D,Lay.ly,List.length_map];rw[f1,f2]
 ·rw[List.length_map,List.length_map];have:=h10.2.2;rw[←Int.natCast_emod]at this;omega
theorem zl_dense {k fr out kh kw st pad:Int}{ws bs':List Rw}{i:Nat}(hk:k=1)(h:RLb ⟨k,fr,out,kh,kw,st,pad,ws,bs'⟩)(hi:i≤64):∃b,(b=true→IsL ⟨k,fr,out,kh,kw,st,pad,ws,bs'⟩ i)∧LV Tryz.prog 90 [.agg (RL.A ⟨k,fr,out,kh,kw,st,pad,ws,bs'⟩),vl (.int .i64 (i:Nat))] (vl (.bool b)):=by
 refine zl_of ?_;have hws:ws.length≤80:=h.ws;have cw:=lx_zcanonical h.sw (by have:=h.ws;omega);have cb:=lx_zcanonical h.sb (by have:=h.bs;omega);simp only at cw cb;subst hk
 ·refine LX_run (m:=0) (n0:=0) mix Tryz.func90 rfl rfl rfl rfl ?_;conv=>whnf
  repeat' first
   |exact zl_false
   |(refine bT (by assumption) ?_;conv=>whnf)
   |(refine bF (by assumption) ?_;conv=>whnf)
   |(refine Cn.c lx_within ?_;conv=>whnf)
   |(refine Cn.c cw ?_;conv=>whnf)
   |(refine Cn.c cb ?_;conv=>whnf)
   |(refine Cn.c (lx_zmultI (z:=((rwR ws).length:Int)) (m:=out) (of_decide_eq_true (show decide (1≤out∧out≤16384)=true by assumption)).1 (by have:=of_decide_eq_true (show decide (1≤out∧out≤16384)=true by assumption);omega) (by omega) (by rw[List.length_map];omega)) ?_;conv=>whnf)
   |(refine bs (fun _=> ?_) (fun _=> ?_)<;>conv=>whnf)
  all_goals exact zl_true (isl_dense (by assumption) (by assumption) (by assumption) (by assumption) (by assumption) (by assumption) (by assumption) (by assumption) (by assumption) (by assumption))
theorem cv_m {out kh kw:Int}(h:1≤out∧out≤16384)(h1:1≤kh∧kh≤64)(h2:1≤kw∧kw≤64):IntKind.i64.wrap (IntKind.i64.wrap (out*kh)*kw)=out*kh*kw∧1≤out*kh*kw∧out*kh*kw≤1000000000:=by
 obtain⟨a,rfl⟩:∃n:Nat,out=n:=⟨out.toNat,by omega⟩;obtain⟨b,rfl⟩:∃n:Nat,kh=n:=⟨kh.toNat,by omega⟩;obtain⟨c,rfl⟩:∃n:Nat,kw=n:=⟨kw.toNat,by omega⟩;have m1:a*b≤16384*64:=Nat.mul_le_mul (by omega) (by omega);have m2:a*b*c≤16384*64*64:=Nat.mul_le_mul m1 (by omega);have m3:1≤a*b*c:=Nat.mul_pos (Nat.mul_pos (by omega) (by omega)) (by omega);rw[←Int.natCast_mul,wrN (by omega),←Int.natCast_mul,wrN (by omega)];exact⟨rfl,by omega,by omega⟩
theorem isl_conv {fr out kh kw st pad:Int}{ws bs':List Rw}{i:Nat}(a1:decide (1≤kh∧kh≤64)=true)(a2:decide (1≤kw∧kw≤64)=true)(a3:decide (1≤st∧st≤64)=true)(h4:decide (pad≥0)=true)(h5:decide (pad<kh)=true)(h6:decide (pad<kw)=true)(h7:(fr==0)=true)(h8:decide (1≤out∧out≤16384)=true)(h9:(((rwR bs').length:Int)==out)=true)
  (h10:decide (1≤((rwR ws).length:Int)∧((rwR ws).length:Int)≤16384∧((rwR ws).length:Int) % IntKind.i64.wrap (IntKind.i64.wrap (out*kh)*kw)=0)=true) (o1:ws.all Rw.ok=true) (o2:bs'.all Rw.ok=true):IsL ⟨2,fr,out,kh,kw,st,pad,ws,bs'⟩ i:=by
 have a1:=of_decide_eq_true a1;have a2:=of_decide_eq_true a2;have a3:=of_decide_eq_true a3;have h4:=of_decide_eq_true h4;have h5:=of_decide_eq_true h5;have h6:=of_decide_eq_true h6;have h8:=of_decide_eq_true h8;have h10:=of_decide_eq_true h10;rw[(cv_m h8 a1 a2).1]at h10;simp only[beq_iff_eq,List.length_map]at h7 h9 h10;obtain⟨kh,rfl⟩:∃n:Nat,kh=n:=⟨kh.toNat,by omega⟩;obtain⟨kw,rfl⟩:∃n:Nat,kw=n:=⟨kw.toNat,by omega⟩;obtain⟨st,rfl⟩:∃n:Nat,st=n:=⟨st.toNat,by omega⟩;obtain⟨pad,rfl⟩:∃n:Nat,pad=n:=⟨pad.toNat,by omega⟩;subst h7 h9;have e1:=rw_can o1;have e2:=rw_can o2;refine⟨.conv kh kw st pad (ws.map Rw.q) (bs'.map Rw.q),?_,⟨⟨by rw[List.length_map];omega,by rw[List.length_map];omega⟩,⟨by rw[List.length_map];omega,by rw[List.length_map];omega⟩,?_,by omega,by omega,by omega,by omega,by omega⟩,o1,o2⟩
 ·have f1:rwD ws=rqsD (ws.map Rw.q):=congrArg (D.sl 3) e1;have f2:rwD bs'=rqsD (bs'.map Rw.q):=congrArg (D.sl 3) e2;simp only[RL.D,Ly.D,Lay.ly,List.length_map];rw[f1,f2]
 ·rw[List.length_map,List.length_map];have:=h10.2.2;rw[←Int.natCast_mul,←Int.natCast_mul,←Int.natCast_emod]at this;omega
theorem zl_conv {k fr out kh kw st pad:Int}{ws bs':List Rw}{i:Nat}(hk:k=2)(h:RLb ⟨k,fr,out,kh,kw,st,pad,ws,bs'⟩)(hi:i≤64):∃b,(b=true→IsL ⟨k,fr,out,kh,kw,st,pad,ws,bs'⟩ i)∧LV Tryz.prog 90 [.agg (RL.A ⟨k,fr,out,kh,kw,st,pad,ws,bs'⟩),vl (.int .i64 (i:Nat))] (vl (.bool b)):=by
 refine zl_of ?_;have hws:ws.length≤80:=h.ws;have cw:=lx_zcanonical h.sw (by have:=h.ws;omega);have cb:=lx_zcanonical h.sb (by have:=h.bs;omega);simp only at cw cb
 have mm:decide (1≤out∧out≤16384)=true→decide (1≤kh∧kh≤64)=true→decide (1≤kw∧kw≤64)=true→LV Tryz.prog 147 [vl (.int .i64 ((rwR ws).length:Int)),vl (.int .i64 (IntKind.i64.wrap (IntKind.i64.wrap (out*kh)*kw)))] (vl (.bool (decide (1≤((rwR ws).length:Int)∧((rwR ws).length:Int)≤16384∧((rwR ws).length:Int) % IntKind.i64.wrap (IntKind.i64.wrap (out*kh)*kw)=0)))):=fun a b c=>by
  obtain⟨m1,m2,m3⟩:=cv_m (of_decide_eq_true a) (of_decide_eq_true b) (of_decide_eq_true c);rw[m1];exact lx_zmultI m2 m3 (by omega) (by rw[List.length_map];omega)
 subst hk
 ·refine LX_run (m:=0) (n0:=0) mix Tryz.func90 rfl rfl rfl rfl ?_;conv=>whnf
  repeat' first
   |exact zl_false
   |(refine bT (by assumption) ?_;conv=>whnf)
   |(refine bF (by assumption) ?_;conv=>whnf)
   |(refine Cn.c lx_within ?_;conv=>whnf)
   |(refine Cn.c cw ?_;conv=>whnf)
   |(refine Cn.c cb ?_;conv=>whnf)
   |(refine Cn.c (mm (by assumption) (by assumption) (by assumption)) ?_;conv=>whnf)
   |(refine bs (fun _=> ?_) (fun _=> ?_)<;>conv=>whnf)
  all_goals exact zl_true (isl_conv (by assumption) (by assumption) (by assumption) (by assumption) (by assumption) (by assumption) (by assumption) (by assumption) (by assumption) (by assumption) (by assumption) (by assumption))
theorem lx_zlayer {x:RL}{i:Nat}(h:RLb x)(hi:i≤64):∃b,(b=true→IsL x i)∧LV Tryz.prog 90 [.agg x.A,vl (.int .i64 (i:Nat))] (vl (.bool b)):=by
 obtain⟨k,fr,out,kh,kw,st,pad,ws,b⟩:=x
 by_cases h1:k=1
 ·exact zl_dense h1 h hi
 by_cases h2:k=2
 ·exact zl_conv h2 h hi
 by_cases h3:k=3
 ·exact zl_pool (.inl h3) h hi
 by_cases h4:k=4
 ·exact zl_pool (.inr h4) h hi
 by_cases h5:k=5
 ·exact zl_relu (.inl h5) h hi
 by_cases h6:k=6
 ·exact zl_relu (.inr h6) h hi
 by_cases h7:k=7
 ·exact zl_add h7 h hi
 exact zl_none (by simp[*]) h hi
abbrev rlR (l:List RL):List (List D):=l.map RL.D
abbrev rmA (inp:List Int)(ls:List RL):List A:=[.d (inD inp),.d (.sl 9 (rlR ls))]
def IsM (ls:List RL):Prop:=∀(i:Nat) x,ls[i]? =some x→IsL x i
theorem lx_zmvalid {inp:List Int}{ls:List RL}(hi:inp.length≤1000)(hl:ls.length≤64)(h:∀x∈ls,RLb x):∃b,(b=true→ShI inp∧IsM ls)∧LV Tryz.prog 51 [.agg (rmA inp ls)] (vl (.bool b)):=by
 suffices hh:LX Tryz.prog 51 [.agg (rmA inp ls)] [] fun v H=>∃b,(b=true→ShI inp∧IsM ls)∧v=vl (.bool b)∧H=[] by
  obtain⟨v,H',⟨b,hb,rfl,rfl⟩,hc⟩:=hh;exact⟨b,hb,_,_,⟨rfl,rfl⟩,hc⟩
 obtain⟨b0,hb0,c0⟩:=lx_zvalidS (xs:=inp) hi;refine LX_run (m:=0) (n0:=0) mix Tryz.func51 rfl rfl rfl rfl ?_;conv=>whnf
 refine .c (c0) ?_;conv=>whnf
 have zf:∀{H:List (Nat×Ent)},Rt 0 H (vl (.bool false)) (fun v H=>∃b,(b=true→ShI inp∧IsM ls)∧v=vl (.bool b)∧H=[]):=fun {H}=>⟨_,_,⟨false,(fun h=>by cases h),rfl,rfl⟩,vR_ _,rfl,trivial,rfl⟩;refine bs (fun g0=> ?_) (fun g0=> ?_)
 ·have hs:ShI inp:=hb0.1 g0;conv=>whnf
  refine bF (decide_eq_false (by rw[List.length_map];omega)) ?_;conv=>whnf
  refine .mk Nat (fun i=>⟨[(3,vl (.int .i64 (i:Nat))),(1,.a (.ptr 0 0))],[(0,.box 25 (rmA inp ls))],1⟩) (fun i=>i≤ls.length∧∀(j:Nat) x,j<i→ls[j]? =some x→IsL x j) (fun i=>ls.length-i) 0 Wk.go ⟨zL_ _,fun j x hj=>by omega⟩ fun i ⟨hi',hj⟩=> ?_;conv=>whnf
  refine bs (fun g1=> ?_) (fun g1=> ?_)
  ·conv=>whnf
   have hlt:i<ls.length:=by simpa using g1
   obtain⟨x,hx⟩:=at_some hlt;obtain⟨b,hb,cl⟩:=lx_zlayer (i:=i) (h x (mG_ hx)) (by omega);refine .mk (i) (x.D) (rfl) (at_map hx) ?_;conv=>whnf
   conv=>whnf
   refine .c (cl) ?_;conv=>whnf
   refine bs (fun g2=> ?_) (fun g2=> ?_)
   ·conv=>whnf
    exact⟨i+1,Wk.go,⟨hlt,fun j y hj' hy=>by
     rcases Nat.lt_or_ge j i with h1|h1
     ·exact hj j y h1 hy
     ·rw[show j=i by omega]at hy ⊢;rw[hx]at hy;injection hy with hy;subst hy;exact hb g2⟩,by omega⟩
   ·conv=>whnf
    exact zf
  ·conv=>whnf
   have e:i=ls.length:=by have:¬i<ls.length:=by simpa using g1
                          omega
   exact⟨_,_,⟨true,(fun _=>⟨hs,fun j x hx=>hj j x (by have:=at_lt hx;omega) hx⟩),rfl,rfl⟩,vR_ _,rfl,trivial,rfl⟩
 ·conv=>whnf
  exact zf
def RL.rel:RL:=⟨5,0,0,0,0,0,0,[],[]⟩
theorem rel_b:RLb RL.rel:=⟨by decide,by decide,by decide,by decide,by decide,by decide,by decide,fun x hx=>(by cases hx),fun x hx=>(by cases hx)⟩
abbrev rlr (n:Nat):List RL:=List.replicate n RL.rel
theorem rlr_snoc (n:Nat):rlR (rlr (n+1))=rlR (rlr n)++[RL.rel.D]:=by rw[rlr,List.replicate_succ',rlR,List.map_append];rfl
theorem rlr_lay (n:Nat)(x:RL):rlR (rlr n++[x])=rlR (rlr n)++[x.D]:=by rw[rlR,List.map_append];rfl
theorem lx_zlv13 {x:RL}{n:Nat}(h:RLb x)(hn:n≤60):∃b,LV Tryz.prog 91 [.agg x.A,vl (.int .i64 (n:Nat))] (vl (.bool b)):=by
 obtain⟨b,_,cl⟩:=lx_zmvalid (inp:=[1]) (ls:=rlr n++[x]) (by decide) (by simp;omega) fun y hy=>by
  rcases List.mem_append.1 hy with hy|hy
  ·rw[List.eq_of_mem_replicate hy];exact rel_b
  ·rw[List.mem_singleton.1 hy];exact h
 refine⟨b,?_⟩;refine LX_run (m:=0) (n0:=0) mix Tryz.func91 rfl rfl rfl rfl ?_;conv=>whnf
 refine .mk Nat (fun i=>⟨[(6,vl (.int .i64 (i:Nat))),(5,.a (.ptr 2 0)),(2,.a (.ptr 0 0)),(1,vl (.int .i64 (n:Nat)))],
  [(0,.box 59 x.A),(1,.arr 3 1 1),(2,.box 25 [.own 1 1 (inR [1]),.own 3 9 (rlR (rlr i))]),(3,.arr 59 9 (rlR (rlr i)).length)],4⟩) (fun i=>i≤n) (fun i=>n-i) 0
  (Wk.trans (Wk.ownB 2 3 1 59 9 rfl rfl rfl) Wk.go) (zL_ _) fun i hi=> ?_
 conv=>whnf
 refine bs (fun g0=> ?_) (fun g0=> ?_)
 ·conv=>whnf
  have hi':i<n:=by simpa using g0
  refine .mk (rlR (rlr (i+1))) rfl (rlr_snoc i) (by simp;omega) ?_;conv=>whnf
  exact⟨i+1,Wk.go,hi',by omega⟩
 ·conv=>whnf
  have e:i=n:=by have:¬i<n:=by simpa using g0
                 omega
  rw[e];refine .mk (rlR (rlr n++[x])) rfl (rlr_lay _ _) (by simp;omega) ?_
  cases b
  all_goals conv=>whnf
  all_goals refine .c (cl) ?_
            conv=>whnf
  all_goals exact .q ⟨rfl,rfl⟩
def ZR (xs:List Int)(v:V):Prop:=∃(ys:List Int) (e:Int),v= .tup [.s (.d (inD ys)),.s (.d (.lit (.int .i64 e)))]∧(e=0→ys=xs∧ShI xs)
theorem zr_err {xs:List Int}{e:Int}(he:e≠0){H:List (Nat×Ent)}:Rt 0 H (.tup [.s (.d (.lit (.slice none 0 0))),.s (.d (.lit (.int .i64 e)))]) (fun v H=>ZR xs v∧H=[]):=
 ⟨_,_,⟨⟨[],e,rfl,fun h=>absurd h he⟩,rfl⟩,WkV.tup ⟨WkA.nil,aR_ _,trivial⟩,rfl,trivial,rfl⟩
theorem lx_zresult {xs:List Int}(hl:xs.length≤1000):∃v,ZR xs v∧LV Tryz.prog 92 [.a (.d (inD xs))] v:=by
 suffices hh:LX Tryz.prog 92 [.a (.d (inD xs))] [] fun v H=>ZR xs v∧H=[] by
  obtain⟨v,H',⟨h1,rfl⟩,hc⟩:=hh;exact⟨v,h1,_,_,⟨rfl,rfl⟩,hc⟩
 obtain⟨b,hb,cl⟩:=lx_zvalidS (xs:=xs) hl;refine LX_run (m:=0) (n0:=0) mix Tryz.func92 rfl rfl rfl rfl ?_;conv=>whnf
 refine .c (cl) ?_;conv=>whnf
 refine bs (fun g0=> ?_) (fun g0=> ?_)
 ·conv=>whnf
  refine .own ?_;conv=>whnf
  refine .mk (inR xs) rfl rfl (by simp;omega) ?_;conv=>whnf
  exact⟨_,_,⟨⟨xs,0,rfl,fun _=>⟨rfl,hb.1 g0⟩⟩,rfl⟩,WkV.tup ⟨WkA.own,aR_ _,trivial⟩,rfl,trivial,rfl⟩
 ·conv=>whnf
  exact zr_err (by decide)
def FitG (l:Lay)(i:Nat)(ss:List (List Nat))(s:List Nat):Prop:=match l with
 | .dense ws bs=>ws.length=bs.length*szS s
 | .conv kh kw st pad ws bs=>WnG (winS s kh kw st pad)∧s.length=3∧ws.length=bs.length*(s.getD 0 0*(kh*kw))
 | .mx kh kw st=>WnG (winS s kh kw st 0)∧s.length=3
 | .av kh kw st=>WnG (winS s kh kw st 0)∧s.length=3
 | .relu=>True
 | .flat=>True
 | .add fr=>ss.getD (fr+1).toNat []=s
def ZO (inp:List Nat)(ss:List (List Nat))(lay:Lay)(v:V):Prop:=∃(ys:List Int) (e:Int),v= .tup [.s (.d (inD ys)),.s (.d (.lit (.int .i64 e)))]∧
 (e=0→ys=nI (outS lay (inS inp ss))∧ShG (outS lay (inS inp ss))∧FitG lay ss.length (inp::ss) (inS inp ss))
theorem zo_err {inp:List Nat}{ss:List (List Nat)}{lay:Lay}{e:Int}(he:e≠0){H:List (Nat×Ent)}:Rt 0 H (.tup [.s (.d (.lit (.slice none 0 0))),.s (.d (.lit (.int .i64 e)))]) (fun v H=>ZO inp ss lay v∧H=[]):=
 ⟨_,_,⟨⟨[],e,rfl,fun h=>absurd h he⟩,rfl⟩,WkV.tup ⟨WkA.nil,aR_ _,trivial⟩,rfl,trivial,rfl⟩
theorem nI_inj {a b:List Nat}(h:nI a=nI b):a=b:=by
 have:∀(a b:List Nat),nI a=nI b→a=b:=by
  intro a
  induction a with
  |nil=>intro b h;cases b with
   |nil=>rfl
   |cons=>cases h
  |cons x a ih=>intro b h;cases b with
   |nil=>cases h
   |cons y b=>
    simp only[nI,List.map_cons,List.cons.injEq]at h;rw[ih b h.2,show x=y by omega]
 exact this a b h
theorem ShI.g {s:List Nat}(h:ShI (nI s)):ShG s:=by
 obtain⟨t,e,ht⟩:=h
 rwa [nI_inj e]
theorem zo_ok {inp:List Nat}{ss:List (List Nat)}{lay:Lay}{xs ys:List Int}{e:Int}(h:e=0→ys=xs∧ShI xs)(hx:xs=nI (outS lay (inS inp ss)))(hf:FitG lay ss.length (inp::ss) (inS inp ss)){H:List (Nat×Ent)}:
  Rt 0 H (.tup [.s (.d (inD ys)),.s (.d (.lit (.int .i64 e)))]) (fun v H=>ZO inp ss lay v∧H=[]):=
 ⟨_,_,⟨⟨ys,e,rfl,fun he=>by obtain⟨h1,h2⟩:=h he;rw[hx]at h1 h2;exact⟨h1,h2.g,hf⟩⟩,rfl⟩,vR_ _,rfl,trivial,rfl⟩
theorem inS_g {inp:List Nat}{ss:List (List Nat)}(hi:ShG inp)(hss:∀s∈ss,ShG s):ShG (inS inp ss):=by
 unfold inS;obtain⟨s,hs⟩:=at_some (l:=inp::ss) (i:=ss.length) (by simp);rw[getD_of hs];rcases List.mem_cons.1 (mG_ hs)with rfl|h
 ·exact hi
 ·exact hss _ h
theorem wn3 {s:List Nat}{W:Wn}(e:s=[W.c,W.h,W.w]):s.length=3∧W=winS s W.kh W.kw W.st W.pad:=by subst e;exact⟨rfl,rfl⟩
theorem lx_zo13 {inp:List Nat}{ss:List (List Nat)}{lay:Lay}{x:RL}(hx:x.D=(Lay.ly lay).D)(hb:RLb x)(hl:ss.length≤60)(hi:ShG inp)(hss:∀s∈ss,ShG s)(hv:LayV ss.length lay):
  ∃v,ZO inp ss lay v∧LV Tryz.prog 52 [.a (.d (shD inp)),.a (.d (ssD ss)),.agg (Lay.ly lay).A] v:=by
 suffices hh:LX Tryz.prog 52 [.a (.d (shD inp)),.a (.d (ssD ss)),.agg (Lay.ly lay).A] [] fun v H=>ZO inp ss lay v∧H=[] by
  obtain⟨v,H',⟨h1,rfl⟩,hc⟩:=hh;exact⟨v,h1,_,_,⟨rfl,rfl⟩,hc⟩
 have ex:x.A=(Lay.ly lay).A:=congrArg (List.map A.d) hx;obtain⟨b,cv⟩:=lx_zlv13 (n:=(ssR ss).length) hb (by rw[List.length_map];exact hl);rw[ex]at cv;have hsg:=inS_g hi hss
 cases b with
 |false=>
  refine LX_run (m:=0) (n0:=0) mix Tryz.func52 rfl rfl rfl rfl ?_;conv=>whnf
  refine .c (lx_zvalidT hi) ?_;conv=>whnf
  refine .c (cv) ?_;conv=>whnf
  exact zo_err (by decide)
 |true=>
 refine LX_run (m:=0) (n0:=0) mix Tryz.func52 rfl rfl rfl rfl ?_;conv=>whnf
 refine .c (lx_zvalidT hi) ?_;conv=>whnf
 refine .c (cv) ?_;conv=>whnf
 refine .mk Nat (fun k=>⟨[(9,vl (.int .i64 (k:Nat))),(8,.a (.d (shD ((inp::ss).getD k [])))),(5,.a (.ptr 0 0)),(1,.a (.d (ssD ss))),(0,.a (.d (shD inp)))],
  [(0,.box 59 (Lay.ly lay).A)],1⟩) (fun k=>k≤ss.length) (fun k=>ss.length-k) 0 Wk.go (zL_ _) fun k hk=> ?_
 conv=>whnf
 refine bs (fun g0=> ?_) (fun g0=> ?_)
 ·conv=>whnf
  have hk':k<ss.length:=by simpa using g0
  obtain⟨s,hs⟩:=at_some hk';refine .mk (k) ([shD s]) (rfl) (at_ss hs) ?_;conv=>whnf
  conv=>whnf
  refine .c (lx_zvalidT (hss s (mG_ hs))) ?_;conv=>whnf
  refine .mk (k) ([shD s]) (rfl) (at_ss hs) ?_;conv=>whnf
  conv=>whnf
  have e1:(inp::ss).getD (k+1) []=s:=by rw[List.getD_cons_succ];exact getD_of hs
  exact⟨k+1,by rw[e1];exact Wk.go,hk',by omega⟩
 conv=>whnf
 have ek:k=ss.length:=by have:¬k<ss.length:=by simpa using g0
                         omega
 have ei:(inp::ss).getD k []=inS inp ss:=by rw[ek];rfl
 rw[ei];clear ei ek g0 hk;have s1:=hsg.sz;refine .c (lx_zsize hsg) ?_;conv=>whnf
 cases lay with
 |dense w' b'=>
  obtain⟨⟨a1,a2⟩,a3,a4⟩:=hv;have m0:b'.length*szS (inS inp ss)≤16384*16384:=Nat.mul_le_mul a2 s1;have m1:IntKind.i64.wrap ((b'.length:Int)*((szS (inS inp ss):Nat):Int))=((b'.length*szS (inS inp ss):Nat):Int):=by rw[←Int.natCast_mul,wrN (by omega)]
  obtain⟨v,⟨ys,e,rfl,hr⟩,cr⟩:=lx_zresult (xs:=[((b'.length:Nat):Int)]) (by simp);conv=>whnf
  rw[show(Lay.ly (.dense w' b')).out=((b'.length:Nat):Int)from rfl,m1];refine bs (fun g1=> ?_) (fun g1=> ?_)
  ·conv=>whnf
   exact zo_err (by decide)
  ·conv=>whnf
   have hl:w'.length=b'.length*szS (inS inp ss):=by have:=g1;simp only[Lay.ly,List.length_map,bne_eq_false_iff_eq]at this;omega
   refine .c (cr) ?_;conv=>whnf
   exact zo_ok (lay:= .dense w' b') hr rfl hl
 |conv kh kw st pad w' b'=>
  obtain⟨⟨a1,a2⟩,a3,a4,a5,a6,a7,a8,a9⟩:=hv;obtain⟨d,hd⟩:=at_some (l:=inS inp ss) (i:=0) (by have:=hsg.l1;omega);have hd0:(inS inp ss).getD 0 0=d:=getD_of hd;have d1:=(hsg.d hd).2;obtain⟨v,⟨L,r,q,e,rfl,hw⟩,cw⟩:=lx_zwindows (s:=inS inp ss) (kh:=((kh:Nat):Int)) (kw:=((kw:Nat):Int)) (st:=((st:Nat):Int)) (pad:=((pad:Nat):Int)) hsg;obtain⟨v,⟨ys,e',rfl,hr⟩,cr⟩:=lx_zresult (xs:=[((b'.length:Nat):Int),r,q]) (by simp);have p1:b'.length*d≤16384*16384:=Nat.mul_le_mul a2 d1;have p2:b'.length*d*kh≤16384*16384*64:=Nat.mul_le_mul p1 a5.2;have p3:b'.length*d*kh*kw≤16384*16384*64*64:=Nat.mul_le_mul p2 a6.2;have m1:IntKind.i64.wrap ((b'.length:Int)*(d:Int))=((b'.length*d:Nat):Int):=by rw[←Int.natCast_mul,wrN (by omega)]
  have m2:IntKind.i64.wrap (((b'.length*d:Nat):Int)*(kh:Int))=((b'.length*d*kh:Nat):Int):=by rw[←Int.natCast_mul,wrN (by omega)]
  have m3:IntKind.i64.wrap (((b'.length*d*kh:Nat):Int)*(kw:Int))=((b'.length*d*kh*kw:Nat):Int):=by rw[←Int.natCast_mul,wrN (by omega)]
  conv=>whnf
  refine .c (cw) ?_;conv=>whnf
  refine bs (fun g1=> ?_) (fun g1=> ?_)
  ·conv=>whnf
   refine .mk (by kernel_rfl) ?_;conv=>whnf
   exact zo_err (by decide)
  ·have he:e=0:=by simpa using g1
   obtain⟨W,w1,w2,w3,w4,w5,w6,w7,w8⟩:=hw he;obtain⟨w9,wW⟩:=wn3 w1;have eW:winS (inS inp ss) kh kw st pad=W:=by
    rw[show kh=W.kh by omega,show kw=W.kw by omega,show st=W.st by omega,show pad=W.pad by omega];exact wW.symm
   conv=>whnf
   refine .mk (0) ([D.lit (.int .i64 (d:Nat))]) (rfl) (at_nI hd) ?_;conv=>whnf
   conv=>whnf
   rw[show(Lay.ly (.conv kh kw st pad w' b')).out=((b'.length:Nat):Int)from rfl,show(Lay.ly (.conv kh kw st pad w' b')).kh=((kh:Nat):Int)from rfl,show(Lay.ly (.conv kh kw st pad w' b')).kw=((kw:Nat):Int)from rfl,m1,m2,m3];refine bs (fun g2=> ?_) (fun g2=> ?_)
   ·conv=>whnf
    refine .mk (by kernel_rfl) ?_;conv=>whnf
    exact zo_err (by decide)
   ·have hl:w'.length=b'.length*d*kh*kw:=by have:=g2;simp only[Lay.ly,List.length_map,bne_eq_false_iff_eq]at this;omega
    conv=>whnf
    refine .mk (by kernel_rfl) ?_;conv=>whnf
    refine .c (cr) ?_;conv=>whnf
    exact zo_ok (lay:= .conv kh kw st pad w' b') hr (by rw[w7,w8,outS,eW];rfl) ⟨by rw[eW];exact w6,w9,by rw[hl,hd0,Nat.mul_assoc (b'.length*d),Nat.mul_assoc b'.length]⟩
 |mx kh kw st=>
  obtain⟨a5,a6,a7⟩:=hv;obtain⟨d,hd⟩:=at_some (l:=inS inp ss) (i:=0) (by have:=hsg.l1;omega);have hd0:(inS inp ss).getD 0 0=d:=getD_of hd;obtain⟨v,⟨L,r,q,e,rfl,hw⟩,cw⟩:=lx_zwindows (s:=inS inp ss) (kh:=((kh:Nat):Int)) (kw:=((kw:Nat):Int)) (st:=((st:Nat):Int)) (pad:=0) hsg;obtain⟨v,⟨ys,e',rfl,hr⟩,cr⟩:=lx_zresult (xs:=[((d:Nat):Int),r,q]) (by simp);conv=>whnf
  refine .c (cw) ?_;conv=>whnf
  refine bs (fun g1=> ?_) (fun g1=> ?_)
  ·conv=>whnf
   refine .mk (by kernel_rfl) ?_;conv=>whnf
   exact zo_err (by decide)
  ·have he:e=0:=by simpa using g1
   obtain⟨W,w1,w2,w3,w4,w5,w6,w7,w8⟩:=hw he;obtain⟨w9,wW⟩:=wn3 w1;have eW:winS (inS inp ss) kh kw st 0=W:=by
    rw[show kh=W.kh by omega,show kw=W.kw by omega,show st=W.st by omega,show 0=W.pad by omega];exact wW.symm
   conv=>whnf
   refine .mk (by kernel_rfl) ?_;conv=>whnf
   refine .mk (0) ([D.lit (.int .i64 (d:Nat))]) (rfl) (at_nI hd) ?_;conv=>whnf
   conv=>whnf
   refine .c (cr) ?_;conv=>whnf
   exact zo_ok (lay:= .mx kh kw st) hr (by rw[w7,w8,outS,eW,hd0];rfl) ⟨by rw[eW];exact w6,w9⟩
 |av kh kw st=>
  obtain⟨a5,a6,a7⟩:=hv;obtain⟨d,hd⟩:=at_some (l:=inS inp ss) (i:=0) (by have:=hsg.l1;omega);have hd0:(inS inp ss).getD 0 0=d:=getD_of hd;obtain⟨v,⟨L,r,q,e,rfl,hw⟩,cw⟩:=lx_zwindows (s:=inS inp ss) (kh:=((kh:Nat):Int)) (kw:=((kw:Nat):Int)) (st:=((st:Nat):Int)) (pad:=0) hsg;obtain⟨v,⟨ys,e',rfl,hr⟩,cr⟩:=lx_zresult (xs:=[((d:Nat):Int),r,q]) (by simp);conv=>whnf
  refine .c (cw) ?_;conv=>whnf
  refine bs (fun g1=> ?_) (fun g1=> ?_)
  ·conv=>whnf
   refine .mk (by kernel_rfl) ?_;conv=>whnf
   exact zo_err (by decide)
  ·have he:e=0:=by simpa using g1
   obtain⟨W,w1,w2,w3,w4,w5,w6,w7,w8⟩:=hw he;obtain⟨w9,wW⟩:=wn3 w1;have eW:winS (inS inp ss) kh kw st 0=W:=by
    rw[show kh=W.kh by omega,show kw=W.kw by omega,show st=W.st by omega,show 0=W.pad by omega];exact wW.symm
   conv=>whnf
   refine .mk (by kernel_rfl) ?_;conv=>whnf
   refine .mk (0) ([D.lit (.int .i64 (d:Nat))]) (rfl) (at_nI hd) ?_;conv=>whnf
   conv=>whnf
   refine .c (cr) ?_;conv=>whnf
   exact zo_ok (lay:= .av kh kw st) hr (by rw[w7,w8,outS,eW,hd0];rfl) ⟨by rw[eW];exact w6,w9⟩
 |relu=>
  obtain⟨v,⟨ys,e,rfl,hr⟩,cr⟩:=lx_zresult (xs:=nI (inS inp ss)) (by have:=hsg.l4;simp;omega);conv=>whnf
  refine .c (cr) ?_;conv=>whnf
  exact zo_ok (lay:= .relu) hr rfl trivial
 |flat=>
  obtain⟨v,⟨ys,e,rfl,hr⟩,cr⟩:=lx_zresult (xs:=[((szS (inS inp ss):Nat):Int)]) (by simp);conv=>whnf
  refine .c (cr) ?_;conv=>whnf
  exact zo_ok (lay:= .flat) hr rfl trivial
 |add fr=>
  obtain⟨a1,a2⟩:=hv;obtain⟨fs,hfs⟩:=at_some (l:=inp::ss) (i:=(fr+1).toNat) (by simp;omega);have hf0:(inp::ss).getD (fr+1).toNat []=fs:=getD_of hfs;have hfg:ShG fs:=by
   rcases List.mem_cons.1 (mG_ hfs)with rfl|h
   ·exact hi
   ·exact hss _ h
  obtain⟨b2,hb2,c2⟩:=lx_ints (xs:=nI fs) (ys:=nI (inS inp ss)) (by have:=hfg.l4;simp;omega) (by have:=hsg.l4;simp;omega);obtain⟨v,⟨ys,e,rfl,hr⟩,cr⟩:=lx_zresult (xs:=nI (inS inp ss)) (by have:=hsg.l4;simp;omega)
  have fin:b2=true→FitG (.add fr) ss.length (inp::ss) (inS inp ss):=fun h=>by
   show(inp::ss).getD (fr+1).toNat []=inS inp ss;rw[hf0];exact nI_inj (hb2.1 h)
  conv=>whnf
  refine bs (fun g1=> ?_) (fun g1=> ?_)
  ·have g1':fr≥0:=of_decide_eq_true g1;obtain⟨j,hj⟩:∃j:Nat,fr=j:=⟨fr.toNat,Int.eq_natCast_toNat.2 g1'⟩;have hfs':ss[j]? =some fs:=by
    rw[show(fr+1).toNat=j+1 by omega]at hfs;simpa using hfs
   conv=>whnf
   refine .mk (j) ([shD fs]) (hj) (at_ss hfs') ?_;conv=>whnf
   conv=>whnf
   cases b2
   ·refine .c (c2) ?_;conv=>whnf
    exact zo_err (by decide)
   ·refine .c (c2) ?_;conv=>whnf
    refine .c (cr) ?_;conv=>whnf
    exact zo_ok (lay:= .add fr) hr rfl (fin rfl)
  ·have g1':¬fr≥0:=of_decide_eq_false g1;have e0:fs=inp:=by
    rw[show(fr+1).toNat=0 by omega]at hfs;simpa using hfs.symm
   rw[e0]at c2;conv=>whnf
   cases b2
   ·refine .c (c2) ?_;conv=>whnf
    exact zo_err (by decide)
   ·refine .c (c2) ?_;conv=>whnf
    refine .c (cr) ?_;conv=>whnf
    exact zo_ok (lay:= .add fr) hr rfl (fin rfl)
end Go.Proofs.YtbegidaaiajffaaGreatDoor.Lf
