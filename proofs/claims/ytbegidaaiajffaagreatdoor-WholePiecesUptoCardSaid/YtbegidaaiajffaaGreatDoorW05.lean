/- Texts LqH LqI LrD LrE LrF LrG LrH LrI LrJ LrK LrL LrM LrN LrO LrP LrQ LrR LrS LrT LrU of this proof, in this order. -/
import Derived.Test.YtbegidaaiajffaaGreatDoorW04
import Derived.Lib.ItoaNum
import Derived.Maps.OwnIn
import Derived.Laws.EntriesVeiled
import Derived.WideMake
set_option linter.unusedVariables false
set_option linter.unusedSimpArgs false
set_option maxRecDepth 100000
set_option maxHeartbeats 4000000
namespace Go.Proofs.YtbegidaaiajffaaGreatDoor.Lf
open Go.RowKit Nt
open Go.Lib (decDigits)
def dval (l:List UInt8):Nat:=l.foldl (fun a d=>a*10+(d.toNat-48)) 0
theorem dval_app (a b:List UInt8):dval (a++b)=dval a*10^b.length+dval b:=by
 have key:∀(b:List UInt8) (m:Nat),b.foldl (fun a d=>a*10+(d.toNat-48)) m=m*10^b.length+b.foldl (fun a d=>a*10+(d.toNat-48)) 0:=by
  intro b
  induction b with
  |nil=>intro m;simp
  |cons d b ih=>intro m;rw[List.foldl_cons,List.foldl_cons,ih,ih (0*10+_),List.length_cons,Nat.pow_succ];simp only[Nat.zero_mul,Nat.zero_add,Nat.add_mul,Nat.mul_assoc,Nat.mul_comm 10];omega
 unfold dval;rw[List.foldl_append];exact key b _
abbrev dig (d:UInt8):Prop:=48≤d.toNat∧d.toNat≤57
theorem dig_of {u:Nat}(h:u<10):dig (UInt8.ofNat (48+u))∧(UInt8.ofNat (48+u)).toNat-48=u:=by
 have:(UInt8.ofNat (48+u)).toNat=48+u:=by rw[UInt8.toNat_ofNat'];omega
 rw[dig,this];omega
theorem dd_ok (u:Nat):dval (decDigits u)=u∧(∀d∈decDigits u,dig d)∧1≤(decDigits u).length:=by
 induction u using Nat.strongRecOn with
 |_ u ih=>
  rw[decDigits];split
  ·rename_i h;obtain⟨h1,h2⟩:=dig_of h;refine⟨?_,fun d hd=> ?_,lR_ _⟩
   ·show 0*10+((UInt8.ofNat (48+u)).toNat-48)=u;omega
   ·rw[List.mem_singleton.1 hd];exact h1
  ·rename_i h;obtain⟨k1,k2,k3⟩:=ih (u/10) (by omega);obtain⟨h1,h2⟩:=dig_of (show u % 10<10 by omega);refine⟨?_,fun d hd=> ?_,by simp⟩
   ·rw[dval_app,k1];show u/10*10^1+(0*10+((UInt8.ofNat (48+u % 10)).toNat-48))=u;omega
   ·rcases List.mem_append.1 hd with hd|hd
    ·exact k2 d hd
    ·rw[List.mem_singleton.1 hd];exact h1
theorem dd_len {u:Nat}:∀{k:Nat},u<10^(k+1)→(decDigits u).length≤k+1:=by
 induction u using Nat.strongRecOn with
 |_ u ih=>
  intro k h;rw[decDigits];split
  ·simp
  ·rename_i h1
   cases k with
   |zero=>simp at h;omega
   |succ k=>
    have:=ih (u/10) (by omega) (k:=k) (by rw[Nat.pow_succ]at h;omega);simp only[List.length_append,List.length_singleton];omega
def chk (n:Nat):List (List UInt8):=
 if h:n<1000000000 then(if n=0 then []else [decDigits n])
 else(List.replicate (9-(decDigits (n % 1000000000)).length) 48++decDigits (n % 1000000000))::chk (n/1000000000)
def dcS (n:Nat):List UInt8:=if n=0 then [48]else(chk n).reverse.flatten
theorem dval_zeros (l:List UInt8):∀k,dval (List.replicate k 48++l)=dval l
 |0=>by simp
 |k+1=>by
  rw[List.replicate_succ,List.cons_append];show(List.replicate k 48++l).foldl _ (0*10+((48:UInt8).toNat-48))=_;exact dval_zeros l k
theorem chk_ok (n:Nat):dval (chk n).reverse.flatten=n∧(∀d∈(chk n).reverse.flatten,dig d)∧(n≠0→1≤(chk n).reverse.flatten.length):=by
 induction n using Nat.strongRecOn with
 |_ n ih=>
  rw[chk];split
  ·rename_i h;split
   ·rename_i h0;subst h0;exact⟨rfl,fun d hd=>(by cases hd),fun h=>absurd rfl h⟩
   ·obtain⟨h1,h2,h3⟩:=dd_ok n;simp only[List.reverse_singleton,List.flatten_cons,List.flatten_nil,List.append_nil];exact⟨h1,h2,fun _=>h3⟩
  ·rename_i h;obtain⟨k1,k2,k3⟩:=ih (n/1000000000) (by omega);obtain⟨h1,h2,h3⟩:=dd_ok (n % 1000000000);have hl:=dd_len (u:=n % 1000000000) (k:=8) (by omega);have e:(List.replicate (9-(decDigits (n % 1000000000)).length) (48:UInt8)++decDigits (n % 1000000000)).length=9:=by simp;omega
   simp only[List.reverse_cons,List.flatten_append,List.flatten_cons,List.flatten_nil,List.append_nil];refine⟨?_,fun d hd=> ?_,fun _=>by rw[List.length_append,e];omega⟩
   ·rw[dval_app,k1,e,dval_zeros,h1];omega
   ·rcases List.mem_append.1 hd with hd|hd
    ·exact k2 d hd
    ·rcases List.mem_append.1 hd with hd|hd
     ·rw[List.eq_of_mem_replicate hd];decide
     ·exact h2 d hd
theorem dcS_ok (n:Nat):dval (dcS n)=n∧(∀d∈dcS n,dig d)∧1≤(dcS n).length:=by
 unfold dcS;split
 ·rename_i h;subst h;exact⟨rfl,fun d hd=>by rw[List.mem_singleton.1 hd];decide,lR_ _⟩
 ·rename_i h;obtain⟨h1,h2,h3⟩:=chk_ok n;exact⟨h1,h2,h3 h⟩
def szT (q:Rat):List UInt8:=dcS q.num.natAbs++if q.den=1 then []else 47::dcS q.den
def tmT (t:Tm):List UInt8:=(if szT t.q=[49]then []else szT t.q++[42])++120::decDigits t.v.toNat
def ptT (f:Af):List (Bool×List UInt8):=f.ts.map (fun t=>(decide (t.q<0),tmT t))++if f.c≠0∨f.ts=[]then [(decide (f.c<0),szT f.c)]else []
def sgT (first neg:Bool):List UInt8:=if first then(if neg then [45]else [])else [32,if neg then 45 else 43,32]
def tlT (l:List (Bool×List UInt8)):List UInt8:=l.flatMap fun p=>sgT false p.1++p.2
def rdT:List (Bool×List UInt8)→List UInt8
 |[]=>[]
 |p::l=>sgT true p.1++p.2++tlT l
def txt (f:Af):List UInt8:=rdT (ptT f)
theorem cutB (c:UInt8):∀{a a' b b':List UInt8},c∉a→c∉a'→(b=[]∨∃r,b=c::r)→(b'=[]∨∃r,b'=c::r)→a++b=a'++b'→a=a'∧b=b'
 |[],[],b,b',_,_,_,_,h=>⟨rfl,h⟩
 |x::a,y::a',b,b',h1,h2,h3,h4,h=>by
  simp only[List.cons_append,List.cons.injEq]at h;obtain⟨k1,k2⟩:=cutB c (fun k=>h1 (List.mem_cons_of_mem _ k)) (fun k=>h2 (List.mem_cons_of_mem _ k)) h3 h4 h.2;exact⟨by rw[h.1,k1],k2⟩
 |[],y::a',b,b',_,h2,h3,_,h=>by
  exfalso;rcases h3 with rfl|⟨r,rfl⟩
  ·simp at h
  ·simp only[List.nil_append,List.cons_append,List.cons.injEq]at h;exact h2 (by rw[h.1];exact List.mem_cons_self)
 |x::a,[],b,b',h1,_,_,h4,h=>by
  exfalso;rcases h4 with rfl|⟨r,rfl⟩
  ·simp at h
  ·simp only[List.nil_append,List.cons_append,List.cons.injEq]at h;exact h1 (by rw[←h.1];exact List.mem_cons_self)
theorem dig_ne {c:UInt8}(hc:c.toNat<48∨57<c.toNat){l:List UInt8}(h:∀d∈l,dig d):c∉l:=fun k=>by have:=h c k;unfold dig at this;omega
theorem dcS_inj {a b:Nat}(h:dcS a=dcS b):a=b:=by rw[←(dcS_ok a).1,←(dcS_ok b).1,h]
theorem szT_ch {q:Rat}:∀d∈szT q,dig d∨d=47:=fun d hd=>by
 unfold szT at hd;rcases List.mem_append.1 hd with hd|hd
 ·exact .inl ((dcS_ok _).2.1 d hd)
 ·split at hd
  ·cases hd
  ·rcases List.mem_cons.1 hd with rfl|hd
   ·exact .inr rfl
   ·exact .inl ((dcS_ok _).2.1 d hd)
theorem szT_ne {c:UInt8}(hc:(c.toNat<48∨57<c.toNat)∧c≠47){q:Rat}:c∉szT q:=fun k=>by
 rcases szT_ch c k with h|h
 ·unfold dig at h;omega
 ·exact hc.2 h
theorem szT_head {q:Rat}:∃d r,szT q=d::r∧dig d:=by
 obtain⟨_,h2,h3⟩:=dcS_ok q.num.natAbs;unfold szT
 cases hd:dcS q.num.natAbs with
 |nil=>rw[hd]at h3;simp at h3
 |cons d r=>exact⟨d,_,rfl,h2 d (by rw[hd];exact List.mem_cons_self)⟩
theorem rat_eq {p q:Rat}(h1:p.num.natAbs=q.num.natAbs)(h2:p.den=q.den)(h3:decide (p<0)=decide (q<0)):p=q:=by
 have e:∀r:Rat,r<0↔r.num<0:=fun r=>by rw[←Rat.not_le,←Rat.num_nonneg];omega
 have h4:p.num<0↔q.num<0:=by rw[←e,←e];simpa using h3
 exact Rat.ext (by omega) h2
theorem szT_inj {p q:Rat}(h:szT p=szT q):p.num.natAbs=q.num.natAbs∧p.den=q.den:=by
 unfold szT at h;have n1:=dig_ne (c:=47) (by decide) (dcS_ok p.num.natAbs).2.1;have n2:=dig_ne (c:=47) (by decide) (dcS_ok q.num.natAbs).2.1;obtain⟨h1,h2⟩:=cutB 47 n1 n2 (by split<;>simp) (by split<;>simp) h;refine⟨dcS_inj h1,?_⟩;split at h2<;>split at h2
 ·omega
 ·cases h2
 ·cases h2
 ·exact dcS_inj (by simpa using h2)
theorem tmT_inj {s t:Tm}(hs:0≤s.v)(ht:0≤t.v)(h:tmT s=tmT t)(hn:decide (s.q<0)=decide (t.q<0)):s=t:=by
 unfold tmT at h
 have n:∀t:Tm,(120:UInt8)∉(if szT t.q=[49]then []else szT t.q++[42]):=fun t=>by
  split
  ·simp
  ·rw[List.mem_append];rintro(h|h)
   ·exact szT_ne (by decide) h
   ·simp at h
 obtain⟨h1,h2⟩:=cutB 120 (n s) (n t) (.inr ⟨_,rfl⟩) (.inr ⟨_,rfl⟩) h;have hv:s.v=t.v:=by
  have h3:decDigits s.v.toNat=decDigits t.v.toNat:=by simpa using h2
  have h4:=congrArg dval h3;rw[(dd_ok _).1,(dd_ok _).1]at h4;omega
 have hq:szT s.q=szT t.q:=by
  split at h1<;>split at h1
  ·simp_all
  ·simp at h1
  ·simp at h1
  ·simpa using h1
 obtain⟨k1,k2⟩:=szT_inj hq;have:=rat_eq k1 k2 hn
 cases s;cases t;simp_all
theorem tmT_ch {t:Tm}:(32:UInt8)∉tmT t∧∃d r,tmT t=d::r∧d≠45:=by
 unfold tmT;have h1:=dig_ne (c:=32) (by decide) (dd_ok t.v.toNat).2.1;obtain⟨d,r,e,hd⟩:=szT_head (q:=t.q);refine⟨fun h=> ?_,?_⟩
 ·rcases List.mem_append.1 h with h|h
  ·split at h
   ·cases h
   ·rcases List.mem_append.1 h with h|h
    ·exact szT_ne (by decide) h
    ·simp at h
  ·rcases List.mem_cons.1 h with h|h
   ·simp at h
   ·exact h1 h
 ·split
  ·exact⟨120,_,rfl,by decide⟩
  ·rw[e];exact⟨d,_,rfl,fun h=>by rw[h]at hd;exact absurd hd (by decide)⟩
structure PtOkT (p:Bool×List UInt8):Prop where
 sp:(32:UInt8)∉p.2
 hd:∃d r,p.2=d::r∧d≠45
theorem ptT_ok {f:Af}:∀p∈ptT f,PtOkT p:=fun p hp=>by
 unfold ptT at hp;rcases List.mem_append.1 hp with hp|hp
 ·obtain⟨t,_,rfl⟩:=List.mem_map.1 hp;exact⟨tmT_ch.1,tmT_ch.2⟩
 ·split at hp
  ·rw[List.mem_singleton.1 hp];obtain⟨d,r,e,hd⟩:=szT_head (q:=f.c);exact⟨szT_ne (by decide),d,r,e,fun h=>by rw[h]at hd;exact absurd hd (by decide)⟩
  ·cases hp
theorem tlT_inj:∀{l m:List (Bool×List UInt8)},(∀p∈l,PtOkT p)→(∀p∈m,PtOkT p)→tlT l=tlT m→l=m
 |[],[],_,_,_=>rfl
 |[],q::m,_,_,h=>by simp[tlT,sgT]at h
 |p::l,[],_,_,h=>by simp[tlT,sgT]at h
 |p::l,q::m,hl,hm,h=>by
  have st:∀l:List (Bool×List UInt8),tlT l=[]∨∃r,tlT l=32::r:=fun l=>by
   cases l with
   |nil=>exact .inl rfl
   |cons p l=>exact .inr ⟨_,rfl⟩
  have h':(32:UInt8)::(if p.1 then 45 else 43)::32::(p.2++tlT l)=32::(if q.1 then 45 else 43)::32::(q.2++tlT m):=by
   simpa [tlT,sgT]using h
  simp only[List.cons.injEq,true_and]at h';obtain⟨h1,h2⟩:=cutB 32 (hl p List.mem_cons_self).sp (hm q List.mem_cons_self).sp (st l) (st m) h'.2;have h3:p.1=q.1:=by
   have:=h'.1
   cases hp:p.1<;>cases hq:q.1<;>simp_all
  rw[tlT_inj (fun x hx=>hl x (List.mem_cons_of_mem _ hx)) (fun x hx=>hm x (List.mem_cons_of_mem _ hx)) h2,Prod.ext h3 h1]
theorem rdT_inj:∀{l m:List (Bool×List UInt8)},(∀p∈l,PtOkT p)→(∀p∈m,PtOkT p)→rdT l=rdT m→l=m:=by
 intro l m hl hm h
 have ne:∀{p:Bool×List UInt8} {l},PtOkT p→rdT (p::l)≠[]:=fun {p l} hp h=>by
  obtain⟨d,r,e,_⟩:=hp.hd;simp[rdT,e]at h
 cases l with
 |nil=>cases m with
  |nil=>rfl
  |cons q m=>exact absurd h.symm (ne (hm q List.mem_cons_self))
 |cons p l=>cases m with
  |nil=>exact absurd h (ne (hl p List.mem_cons_self))
  |cons q m=>
   have hp:=hl p List.mem_cons_self;have hq:=hm q List.mem_cons_self
   have st:∀l:List (Bool×List UInt8),tlT l=[]∨∃r,tlT l=32::r:=fun l=>by
    cases l with
    |nil=>exact .inl rfl
    |cons p l=>exact .inr ⟨_,rfl⟩
   have go:p.1=q.1→p.2++tlT l=q.2++tlT m→p::l=q::m:=fun e h=>by
    obtain⟨h1,h2⟩:=cutB 32 hp.sp hq.sp (st l) (st m) h;rw[tlT_inj (fun x hx=>hl x (List.mem_cons_of_mem _ hx)) (fun x hx=>hm x (List.mem_cons_of_mem _ hx)) h2,Prod.ext e h1]
   obtain⟨d,r,e,hd⟩:=hp.hd;obtain⟨d',r',e',hd'⟩:=hq.hd;simp only[rdT,sgT,if_true,List.append_assoc]at h
   cases h1:p.1<;>cases h2:q.1<;>rw[h1,h2]at h
   ·exact go (by rw[h1,h2]) (by simpa using h)
   ·rw[e]at h;simp at h;exact absurd h.1 hd
   ·rw[e']at h;simp at h;exact absurd h.1.symm hd'
   ·exact go (by rw[h1,h2]) (by simpa using h)
theorem tm_ne_c {t:Tm}{q:Rat}:tmT t≠szT q:=fun h=>by
 have:(120:UInt8)∈szT q:=by rw[←h];unfold tmT;simp
 exact szT_ne (by decide) this
theorem txt_inj {f g:Af}(hf:∀t∈f.ts,0≤t.v)(hg:∀t∈g.ts,0≤t.v)(h:txt f=txt g):f=g:=by
 have h1:=rdT_inj ptT_ok ptT_ok h;unfold ptT at h1
 have key:∀(l m:List Tm) (a b:List (Bool×List UInt8)),(∀t∈l,0≤t.v)→(∀t∈m,0≤t.v)→(∀p∈a,∃q:Rat,p.2=szT q)→(∀p∈b,∃q:Rat,p.2=szT q)→
   l.map (fun t=>(decide (t.q<0),tmT t))++a=m.map (fun t=>(decide (t.q<0),tmT t))++b→l=m∧a=b:=by
  intro l
  induction l with
  |nil=>
   intro m a b _ _ ha _ h
   cases m with
   |nil=>exact⟨rfl,h⟩
   |cons t m=>
    exfalso;simp only[List.map_nil,List.nil_append,List.map_cons,List.cons_append]at h;obtain⟨q,hq⟩:=ha _ (by rw[h];exact List.mem_cons_self);exact tm_ne_c hq
  |cons s l ih=>
   intro m a b hl hm ha hb h
   cases m with
   |nil=>
    exfalso;simp only[List.map_nil,List.nil_append,List.map_cons,List.cons_append]at h;obtain⟨q,hq⟩:=hb _ (by rw[←h];exact List.mem_cons_self);exact tm_ne_c hq
   |cons t m=>
    simp only[List.map_cons,List.cons_append,List.cons.injEq,Prod.mk.injEq]at h;obtain⟨k1,k2⟩:=ih m a b (fun x hx=>hl x (List.mem_cons_of_mem _ hx)) (fun x hx=>hm x (List.mem_cons_of_mem _ hx)) ha hb h.2;exact⟨by rw[tmT_inj (hl s List.mem_cons_self) (hm t List.mem_cons_self) h.1.2 h.1.1,k1],k2⟩
 have cs:∀f:Af,∀p∈(if f.c≠0∨f.ts=[]then [(decide (f.c<0),szT f.c)]else []),∃q:Rat,p.2=szT q:=fun f p hp=>by
  split at hp
  ·rw[List.mem_singleton.1 hp];exact⟨_,rfl⟩
  ·cases hp
 obtain⟨e1,e2⟩:=key _ _ _ _ hf hg (cs f) (cs g) h1;have e3:f.c=g.c:=by
  split at e2<;>split at e2
  ·simp only[List.cons.injEq,Prod.mk.injEq,and_true]at e2;obtain⟨k1,k2⟩:=szT_inj e2.2;exact rat_eq k1 k2 e2.1
  ·cases e2
  ·cases e2
  ·rename_i a b;have a':f.c=0:=Classical.byContradiction fun h=>a (.inl h);have b':g.c=0:=Classical.byContradiction fun h=>b (.inl h);rw[a',b']
 cases f;cases g;simp_all
def Mo.n (m:Mo):Nat:=szS m.inp
def Mo.lw (m:Mo):Nat→List Af×List (List Af)
 |0=>([],[(List.range m.n).map fun(i:Nat)=>varS (i:Int)])
 |i+1=>((lowL (m.lay i) (m.sh i) m.n (m.lw i).1 (m.lw i).2 ((m.lw i).2.getD i [])).1,(m.lw i).2++[(lowL (m.lay i) (m.sh i) m.n (m.lw i).1 (m.lw i).2 ((m.lw i).2.getD i [])).2])
def Mo.us (m:Mo):List Af:=(m.lw m.ls.length).1
def Mo.os (m:Mo):List Af:=(m.lw m.ls.length).2.getD m.ls.length []
theorem getD_snoc {α:Type}{l:List α}{a d:α}{i:Nat}(h:l.length=i):(l++[a]).getD i d=a:=by
 rw[List.getD_eq_getElem?_getD,List.getElem?_append_right (by omega),h];simp
theorem getD_snoc' {α:Type}{l:List α}{a d:α}{i:Nat}(h:i<l.length):(l++[a]).getD i d=l.getD i d:=by
 rw[List.getD_eq_getElem?_getD,List.getElem?_append_left h,List.getD_eq_getElem?_getD]
structure AlI (m:Mo)(x:List Rat)(i:Nat):Prop where
 len:(m.al x i).length=i+1
 ln:∀k,k≤i→((m.al x i).getD k []).length=szS (m.sh k)
 lv:∀y∈m.al x i,∀v∈y,Lv m.L (1+2*i) v
theorem mxs_len (n:Nat):∀(ls:List (List Af)) (us:List Af),(mxs n us ls).2.length=ls.length
 |[],_=>rfl
 |l::r,us=>by rw[mxs,List.length_cons,List.length_cons,mxs_len n r]
theorem low_ln (l:Lay)(s:List Nat)(n:Nat)(us:List Af)(all:List (List Af))(x:List Af)(hx:x.length=szS s):(lowL l s n us all x).2.length=szS (outS l s):=by
 cases l with
 |dense ws bs=>simp only[lowL,outS,szS1,denseG,List.length_map,List.length_range]
 |conv kh kw st pad ws bs=>simp only[lowL,outS,szS3,conv_ln,Wn.all_ln,Nat.mul_assoc]
 |mx kh kw st=>simp only[lowL,outS,szS3,mxs_len,picks_ln,Wn.all_ln,Nat.mul_assoc]
 |av kh kw st=>simp only[lowL,outS,szS3,List.length_map,picks_ln,Wn.all_ln,Nat.mul_assoc]
 |relu=>simp only[lowL,outS,List.length_map,List.length_range,hx]
 |flat=>simp only[lowL,outS,szS1,hx]
 |add fr=>simp only[lowL,outS,addG,List.length_map,List.length_range,hx]
structure LwI (m:Mo)(i:Nat):Prop where
 len:(m.lw i).2.length=i+1
 ul:(m.lw i).1.length=m.un i
 ln:∀k,k≤i→((m.lw i).2.getD k []).length=szS (m.sh k)
 us:UsOk m.L 241 m.n (m.lw i).1
 lv:∀y∈(m.lw i).2,∀f∈y,FLv m.L (1+40*i) (1+40*i) ((m.n+(m.lw i).1.length:Nat):Int) f
 v:∀ξ,Sat m.n (m.lw i).1 ξ→(m.lw i).2.map (List.map (ph 1 ξ))=m.al ((List.range m.n).map fun(k:Nat)=>ξ (k:Int)) i
theorem Mo.lw_ok {m:Mo}(h:MoOk m):∀i,i≤m.ls.length→LwI m i
 |0,_=>by
  refine⟨rfl,rfl,fun k hk=> ?_,fun j f hj=>by simp[Mo.lw]at hj,fun y hy f hf=> ?_,fun ξ _=> ?_⟩
  ·rw[show k=0 by omega];simp[Mo.lw,Mo.n,Mo.sh]
  ·rw[Mo.lw,List.mem_singleton]at hy;subst hy;obtain⟨k,hk,rfl⟩:=List.mem_map.1 hf;rw[List.mem_range]at hk;exact FLv.var h.L (Int.natCast_nonneg _) (Int.ofNat_lt.2 (by omega)) (lR_ _)
  ·simp only[Mo.lw,Mo.al,List.map_cons,List.map_nil,List.map_map]
   congr 1
   exact List.map_congr_left fun k _=>ph_var
 |i+1,hi=>by
  obtain⟨h1,h2,h3,h4,h5,h6⟩:=Mo.lw_ok h i (by omega);have hf:=h.fit i (by omega);have hn:=h.n;have hmem:∀f∈(m.lw i).2.getD i [],FLv m.L (1+40*i) (1+40*i) ((m.n+(m.lw i).1.length:Nat):Int) f:=by
   rw[List.getD_eq_getElem?_getD,List.getElem?_eq_getElem (by omega)];exact h5 _ (List.getElem_mem _)
  obtain⟨⟨ex,k1⟩,k2,k3,k4,k5⟩:=lowL_ok (h.lv (by omega)) (E:=241) (by omega) (by omega) (h.sh i (by omega)).sz hf (h3 i (lR_ _)) h4 hmem h5
  have hval:∀ξ,Sat m.n (m.lw (i+1)).1 ξ→(lowL (m.lay i) (m.sh i) m.n (m.lw i).1 (m.lw i).2 ((m.lw i).2.getD i [])).2.map (ph 1 ξ)=eLay (m.lay i) (m.sh i) (m.al ((List.range m.n).map fun(k:Nat)=>ξ (k:Int)) i) ((m.al ((List.range m.n).map fun(k:Nat)=>ξ (k:Int)) i).getD i []):=fun ξ hξ=>by
   have hξ':Sat m.n (m.lw i).1 ξ:=Sat.pre (ex:=ex) (by rw[←k1];exact hξ);rw[k5 ξ hξ,←h6 ξ hξ',←getD_map (List.map (ph 1 ξ)) (m.lw i).2 i []];rfl
  refine⟨by rw[Mo.lw,List.length_append,h1];rfl,by rw[Mo.un,←h2];exact k2,fun k hk=> ?_,k3,fun y hy f hy'=> ?_,fun ξ hξ=> ?_⟩
  ·rw[Mo.lw];simp only;rcases Nat.lt_or_ge k (i+1)with hk'|hk'
   ·rw[getD_snoc' (by omega)];exact h3 k (by omega)
   ·rw[show k=i+1 by omega,getD_snoc h1];exact low_ln _ _ _ _ _ _ (h3 i (lR_ _))
  ·rw[Mo.lw]at hy;rcases List.mem_append.1 hy with hy|hy
   ·refine(h5 y hy f hy').up h.L (by omega) ?_;show m.n+(m.lw i).1.length≤m.n+(lowL (m.lay i) (m.sh i) m.n (m.lw i).1 (m.lw i).2 ((m.lw i).2.getD i [])).1.length;rw[k1,List.length_append];omega
   ·rw[List.mem_singleton.1 hy]at hy';exact(k4 f hy').up h.L (by omega) (lR_ _)
  ·have hξ':Sat m.n (m.lw i).1 ξ:=Sat.pre (ex:=ex) (by rw[←k1];exact hξ);rw[Mo.al,←hval ξ hξ,←h6 ξ hξ',Mo.lw,List.map_append];rfl
theorem MoOk.gk {m:Mo}(h:MoOk m):Gk m.L m.n m.us m.os∧m.os.length=szS (m.sh m.ls.length)∧∀ξ,Sat m.n m.us ξ→m.os.map (ph 1 ξ)=m.out ((List.range m.n).map fun(k:Nat)=>ξ (k:Int)):=by
 obtain⟨h1,h2,h3,h4,h5,h6⟩:=Mo.lw_ok h m.ls.length (lR_ _);have hu:m.us.length≤20:=by show(m.lw m.ls.length).1.length≤20;rw[h2];exact h.un
 have hn:=h.n;have hmem:∀f∈m.os,FLv m.L (1+40*m.ls.length) (1+40*m.ls.length) ((m.n+m.us.length:Nat):Int) f:=by
  unfold Mo.os;rw[List.getD_eq_getElem?_getD,List.getElem?_eq_getElem (by omega)];exact h5 _ (List.getElem_mem _)
 have e1:241≤eL m.us.length:=by unfold eL;omega
 have e2:241≤kL m.us.length:=by unfold kL;omega
 refine⟨⟨hu,fun j f hj=>(h4 j f hj).mono h.L e1 e2 (Int.le_refl _),fun f hf=>(hmem f hf).mono h.L (by omega) (by omega) (Int.le_refl _)⟩,h3 _ (lR_ _),fun ξ hξ=> ?_⟩;rw[Mo.out,←h6 ξ hξ];exact(getD_map (List.map (ph 1 ξ)) (m.lw m.ls.length).2 m.ls.length []).symm
def xi (v:List Rat):Int→Rat:=fun i=>v.getD i.toNat 0
def gv (us:List Af)(x:List Rat):Nat→List Rat
 |0=>x
 |j+1=>gv us x j++[maxQ 0 (ph 1 (xi (gv us x j)) (us.getD j z0))]
def gOut (us os:List Af)(x:List Rat):List Rat:=os.map (ph 1 (xi (gv us x us.length)))
theorem gv_len {us:List Af}{x:List Rat}:∀j,(gv us x j).length=x.length+j
 |0=>rfl
 |j+1=>by rw[gv,List.length_append,gv_len j];rfl
theorem xi_snoc {v:List Rat}{a:Rat}{i:Int}(h0:0≤i)(h:i<v.length):xi (v++[a]) i=xi v i:=by
 unfold xi;exact getD_snoc' (by omega)
theorem gv_at {us:List Af}{x:List Rat}{j:Nat}{i:Int}(h0:0≤i)(h:i<(x.length+j:Nat)):∀k,j≤k→xi (gv us x k) i=xi (gv us x j) i
 |0,hk=>by rw[show j=0 by omega]
 |k+1,hk=>by
  rcases Nat.lt_or_ge k j with h1|h1
  ·rw[show k+1=j by omega]
  ·rw[gv,xi_snoc h0 (by rw[gv_len];omega),gv_at h0 h k h1]
theorem maxQ_comm (a b:Rat):maxQ a b=maxQ b a:=by unfold maxQ;grind
theorem Gk.ts {L n:Nat}{us os:List Af}(h:Gk L n us os)(j:Nat)(f:Af)(hj:us[j]? =some f):Ts ((n+j:Nat):Int) f:=(h.uf j f hj).ts
theorem gv_sat {n:Nat}{us:List Af}{x:List Rat}(ht:∀(j:Nat) f,us[j]? =some f→Ts ((n+j:Nat):Int) f)(hx:x.length=n):Sat n us (xi (gv us x us.length)):=fun j f hj=>by
 have hl:=at_lt hj;rw[gv_at (j:=j+1) (Int.natCast_nonneg _) (by omega) us.length (by omega),gv];have e:xi (gv us x j++[maxQ 0 (ph 1 (xi (gv us x j)) (us.getD j z0))]) ((n+j:Nat):Int)=maxQ 0 (ph 1 (xi (gv us x j)) (us.getD j z0)):=by
  unfold xi;exact getD_snoc (by rw[gv_len,hx,Int.toNat_natCast])
 rw[e,maxQ_comm,List.getD_eq_getElem?_getD,hj]
 congr 1
 exact(ph_congr (ht j f hj) fun v h0 hv=>gv_at h0 (by omega) us.length (by omega)).symm
theorem sat_uniq {n:Nat}{us:List Af}{x:List Rat}(ht:∀(j:Nat) f,us[j]? =some f→Ts ((n+j:Nat):Int) f)(hx:x.length=n){ξ:Int→Rat}(hs:Sat n us ξ)(hi:∀i:Int,0≤i→i<n→ξ i=xi x i):
  ∀j,j≤us.length→∀v:Int,0≤v→v<(n+j:Nat)→ξ v=xi (gv us x j) v
 |0,_,v,h0,hv=>hi v h0 (by omega)
 |j+1,hj,v,h0,hv=>by
  have ih:=sat_uniq ht hx hs hi j (by omega);rcases(show v<(n+j:Nat)∨((n+j:Nat):Int)≤v by omega)with h|h
  ·rw[ih v h0 h,gv,xi_snoc h0 (by rw[gv_len];omega)]
  ·rw[show v=((n+j:Nat):Int) by omega];obtain⟨f,hf⟩:=at_some (l:=us) (i:=j) (by omega);rw[hs j f hf,gv];unfold xi;rw[getD_snoc (by rw[gv_len,hx,Int.toNat_natCast]),maxQ_comm,List.getD_eq_getElem?_getD,hf]
   congr 1
   exact ph_congr (ht j f hf) fun w k0 kw=>ih w k0 kw
theorem xi_list {n:Nat}{us:List Af}{x:List Rat}(hx:x.length=n)(k:Nat):(List.range n).map (fun(i:Nat)=>xi (gv us x k) (i:Int))=x:=by
 refine List.ext_getElem? fun i=> ?_
 by_cases h:i<n
 ·rw[List.getElem?_map,List.getElem?_range h];simp only[Option.map_some];rw[gv_at (j:=0) (Int.natCast_nonneg _) (by omega) k (by omega),gv];unfold xi;rw[Int.toNat_natCast,List.getD_eq_getElem?_getD,List.getElem?_eq_getElem (by omega)];rfl
 ·rw[List.getElem?_eq_none (by rw[List.length_map,List.length_range];omega),List.getElem?_eq_none (by omega)]
theorem MoOk.outs {m:Mo}(h:MoOk m){x:List Rat}(hx:x.length=m.n):gOut m.us m.os x=m.out x:=by
 obtain⟨h1,_,h2⟩:=h.gk;have:=h2 _ (gv_sat (x:=x) h1.ts hx)
 rwa [xi_list hx]at this
theorem Eqg.outs {L L' n:Nat}{us os us' os':List Af}(h:Eqg n us os us' os')(h1:Gk L n us os)(h2:Gk L' n us' os'){x:List Rat}(hx:x.length=n):gOut us' os' x=gOut us os x:=by
 obtain⟨ξ,s,hi,ho⟩:=h _ (gv_sat (x:=x) h1.ts hx);unfold gOut;rw[←ho];have hu:=sat_uniq h2.ts hx s (fun i h0 hn=>by rw[hi i hn,gv_at (j:=0) h0 (by omega) us.length (by omega)];rfl) us'.length (lR_ _);exact List.map_congr_left fun f hf=>ph_congr (h2.of f hf).ts fun v h0 hv=>(hu v h0 hv).symm
structure Ly where
 kind:Int
 fr:Int
 out:Int
 kh:Int
 kw:Int
 st:Int
 pad:Int
 ws:List Rat
 bs:List Rat
abbrev rqR (l:List Rat):List (List D):=l.map fun q=>(can q).D
abbrev trR (t:List (List Rat)):List (List D):=t.map fun y=>[rqsD y]
abbrev Ly.D (l:Ly):List D:=[.lit (.int .i64 l.kind),.lit (.int .i64 l.fr),.lit (.int .i64 l.out),.lit (.int .i64 l.kh),.lit (.int .i64 l.kw),.lit (.int .i64 l.st),.lit (.int .i64 l.pad),rqsD l.ws,rqsD l.bs]
abbrev Ly.A (l:Ly):List A:=[.d (.lit (.int .i64 l.kind)),.d (.lit (.int .i64 l.fr)),.d (.lit (.int .i64 l.out)),.d (.lit (.int .i64 l.kh)),.d (.lit (.int .i64 l.kw)),.d (.lit (.int .i64 l.st)),.d (.lit (.int .i64 l.pad)),.d (rqsD l.ws),.d (rqsD l.bs)]
abbrev stA (l:Ly)(s:List Nat)(x inp:List Rat)(tr:List (List Rat)):List A:=[.d (.lit (.int .i64 l.kind)),.d (.lit (.int .i64 l.fr)),.d (.lit (.int .i64 l.out)),.d (.lit (.int .i64 l.kh)),.d (.lit (.int .i64 l.kw)),.d (.lit (.int .i64 l.st)),.d (.lit (.int .i64 l.pad)),.d (rqsD l.ws),.d (rqsD l.bs),.d (shD s),.d (rqsD x),.d (rqsD inp),.d (.sl 1 (trR tr))]
theorem at_rq {l:List Rat}{i:Nat}{q:Rat}(h:l[i]? =some q):(rqR l)[i]? =some (can q).D:=at_map (f:=fun q=>(can q).D) h
theorem getD_of {α:Type}{l:List α}{i:Nat}{q d:α}(h:l[i]? =some q):l.getD i d=q:=by rw[List.getD_eq_getElem?_getD,h];rfl
theorem Lv.z {L e:Nat}{q:Rat}(hL:LOk L)(h:Lv L e q)(he:e≤100000):Sz q:=(h.bt hL).mono (by omega)
theorem Lw.z {L e m:Nat}{q:Rat}(hL:LOk L)(h:Lw L e m q)(he:e≤90000)(hm:m≤1000000):Sz q:=(h.up hL hm).z hL (by omega)
def Ll (L e:Nat)(l:List Rat):Prop:=∀v∈l,Lv L e v
theorem Ll.at {L e:Nat}{l:List Rat}{i:Nat}{q:Rat}(h:Ll L e l)(hi:l[i]? =some q):Lv L e q:=h q (mG_ hi)
theorem ev_dense {l:Ly}{s:List Nat}{x inp:List Rat}{tr:List (List Rat)}{L e:Nat}(hL:LOk L)(he:e≤10000)(hx:Ll L e x)(hw:Ll L 1 l.ws)(hb:Ll L 1 l.bs)(hn:x.length≤24)(hbl:l.bs.length≤24)(hwl:l.ws.length=l.bs.length*x.length):
  LV Tryz.prog 97 [.agg (stA l s x inp tr)] (.a (.d (rqsD (denseG ratO l.ws l.bs x)))):=by
 refine LX_run (m:=0) (n0:=0) mix Tryz.func97 rfl rfl rfl rfl ?_;conv=>whnf
 refine .mk Nat (fun r=>⟨[(16,vl (.int .i64 (r:Nat))),(15,vl (.int .i64 (rqR l.bs).length)),(14,.a (.d (rqsD l.bs))),(4,vl (.int .i64 (rqR x).length)),(3,.a (.own 1 3 (rqR ((List.range r).map fun r=>dotN ratO l.ws (r*x.length) x (l.bs.getD r 0) x.length)))),(1,.a (.ptr 0 0))],
  [(0,.box 104 (stA l s x inp tr)),(1,.arr 56 3 (rqR ((List.range r).map fun r=>dotN ratO l.ws (r*x.length) x (l.bs.getD r 0) x.length)).length)],2⟩) (fun r=>r≤l.bs.length) (fun r=>l.bs.length-r) 0
  (Wk.trans (Wk.own 3 1 56 3 rfl rfl (zL_ _)) Wk.go) (zL_ _) fun r hr=> ?_
 generalize hO:(List.range r).map (fun r=>dotN ratO l.ws (r*x.length) x (l.bs.getD r 0) x.length)=O;conv=>whnf
 refine bs (fun g0=> ?_) (fun g0=> ?_)
 ·conv=>whnf
  have hr':r<l.bs.length:=by simpa using g0
  obtain⟨b,hb'⟩:=at_some hr';have eb:l.bs.getD r 0=b:=getD_of hb';have zb:=hb.at hb';refine .mk (r) ((can b).D) (rfl) (at_rq hb') ?_;conv=>whnf
  conv=>whnf
  refine .mk Nat (fun k=>⟨[(24,vl (.int .i64 (k:Nat))),(23,vl (.int .i64 (rqR x).length)),(22,.a (.d (rqsD x))),(5,vl (.int .i64 (r:Nat))),(6,.a (.ptr 2 0)),(16,vl (.int .i64 (r:Nat))),(15,vl (.int .i64 (rqR l.bs).length)),(14,.a (.d (rqsD l.bs))),(4,vl (.int .i64 (rqR x).length)),(3,.a (.own 1 3 (rqR O))),(1,.a (.ptr 0 0))],
   [(2,.box 56 (can (dotN ratO l.ws (r*x.length) x b k)).A),(0,.box 104 (stA l s x inp tr)),(1,.arr 56 3 (rqR O).length)],3⟩) (fun k=>k≤x.length) (fun k=>x.length-k) 0
   Wk.go (zL_ _) fun k hk=> ?_
  have hd:=pt_rat.dotN hL (r*x.length) hw hx zb k;conv=>whnf
  refine bs (fun g1=> ?_) (fun g1=> ?_)
  ·conv=>whnf
   have hk':k<x.length:=by simpa using g1
   obtain⟨v,hv⟩:=at_some hk';have hix:r*x.length+k<l.ws.length:=by
    rw[hwl];have:=Nat.mul_le_mul_right x.length (show r+1≤l.bs.length from hr');rw[Nat.add_mul]at this;omega
   obtain⟨w,hw'⟩:=at_some hix;have zv:=hx.at hv;have zw:=hw.at hw';have hm:r*x.length≤24*24:=Nat.mul_le_mul (by omega) hn;have ei:IntKind.i64.wrap (IntKind.i64.wrap ((r:Int)*((rqR x).length:Int))+(k:Int))=((r*x.length+k:Nat):Int):=by
    rw[List.length_map,←Int.natCast_mul,wrN (n:=r*x.length) (by omega),←Int.natCast_add,wrN (by omega)]
   have es:dotN ratO l.ws (r*x.length) x b (k+1)=dotN ratO l.ws (r*x.length) x b k+w*v:=by
    rw[dotN,atO,getD_of hv,getD_of hw'];rfl
   generalize dotN ratO l.ws (r*x.length) x b k=y at *
   refine .mk (k) ((can v).D) (rfl) (at_rq hv) ?_;conv=>whnf
   conv=>whnf
   rw[ei];refine .mk ((r*x.length+k)) ((can w).D) (rfl) (at_rq hw') ?_;conv=>whnf
   conv=>whnf
   refine .c (lx_rmul (.c (zw.z hL (by omega))) (.c (zv.z hL (by omega)))) ?_;conv=>whnf
   refine .c (lx_radd (.c (hd.z hL (by omega) (by omega))) (.c ((zw.mul zv).z hL (by omega)))) ?_;conv=>whnf
   refine .mk (by kernel_rfl) ?_;conv=>whnf
   exact⟨k+1,by rw[es];exact Wk.go,hk',by omega⟩
  ·conv=>whnf
   have ek:k=x.length:=by simp at g1;omega
   subst ek;refine .mk (rqR (O++[dotN ratO l.ws (r*x.length) x b x.length])) rfl (by rw[rqR,List.map_append];rfl) (by rw[rqR,List.length_map,List.length_append,←hO];simp;omega) ?_;conv=>whnf
   exact⟨r+1,by rw[range_map_snoc,hO,eb];exact Wk.go,hr',by omega⟩
 ·conv=>whnf
  have er:r=l.bs.length:=by simp at g0;omega
  subst er;exact .s ⟨by rw[←hO];rfl,rfl⟩
theorem shD3 {s:List Nat}(h:s.length=3)(kh kw st pad:Nat):shD s=shD [(winS s kh kw st pad).c,(winS s kh kw st pad).h,(winS s kh kw st pad).w]:=congrArg shD (len3 h)
theorem ev_windows {l:Ly}{s:List Nat}{x inp:List Rat}{tr:List (List Rat)}{kh kw st pad:Nat}(h1:l.kh=kh)(h2:l.kw=kw)(h3:l.st=st)(h4:l.pad=pad)(hs:s.length=3)(ok:(winS s kh kw st pad).Ok):
  LV Tryz.prog 150 [.agg (stA l s x inp tr)] (.a (.d (wnD (winS s kh kw st pad).all))):=by
 have hc:=lx_windows ok;rw[←shD3 hs]at hc;refine LX_run (m:=0) (n0:=0) mix Tryz.func150 rfl rfl rfl rfl ?_;conv=>whnf
 rw[h1,h2,h3,h4];refine .c (hc) ?_;conv=>whnf
 exact .q ⟨rfl,rfl⟩
theorem at_wn {l:List (List Int)}{i:Nat}{w:List Int}(h:l[i]? =some w):(wnR l)[i]? =some [inD w]:=at_map (f:=fun w=>[inD w]) h
def cvTo {α:Type}(o:Op α)(W:List (List Int))(ws bs:List Rat)(x:List α)(c j:Nat):List α:=((List.range c).flatMap fun c=>W.map fun w=>cvN o ws (c*w.length) w x (bs.getD c 0) w.length)++(W.take j).map fun w=>cvN o ws (c*w.length) w x (bs.getD c 0) w.length
theorem cvTo_end {α:Type}(o:Op α)(W:List (List Int))(ws bs:List Rat)(x:List α)(c:Nat):cvTo o W ws bs x c W.length=cvTo o W ws bs x (c+1) 0:=by
 unfold cvTo;rw[range_fm_snoc,List.take_length,List.take_zero,List.map_nil,List.append_nil]
theorem cvTo_snoc {α:Type}(o:Op α)(W:List (List Int))(ws bs:List Rat)(x:List α)(c j:Nat){w:List Int}(h:W[j]? =some w):cvTo o W ws bs x c (j+1)=cvTo o W ws bs x c j++[cvN o ws (c*w.length) w x (bs.getD c 0) w.length]:=by
 unfold cvTo;rw[take_snoc h,List.map_append,←List.append_assoc];rfl
theorem cvTo_all {α:Type}(o:Op α)(W:List (List Int))(ws bs:List Rat)(x:List α):cvTo o W ws bs x bs.length 0=convG o W ws bs x:=by
 unfold cvTo convG;rw[List.take_zero,List.map_nil,List.append_nil]
theorem cvTo_len {α:Type}(o:Op α)(W:List (List Int))(ws bs:List Rat)(x:List α)(c j:Nat):(cvTo o W ws bs x c j).length≤c*W.length+j:=by
 unfold cvTo;rw[List.length_append,fm_len (fun i=>List.length_map ..),List.length_map,List.length_take];omega
theorem ev_conv {l:Ly}{s:List Nat}{x inp:List Rat}{tr:List (List Rat)}{L e:Nat}{kh kw st pad:Nat}(hL:LOk L)(he:e≤10000)(hx:Ll L e x)(hw:Ll L 1 l.ws)(hb:Ll L 1 l.bs)(hbl:l.bs.length≤24)
  (h1:l.kh=kh) (h2:l.kw=kw) (h3:l.st=st) (h4:l.pad=pad) (hs:s.length=3) (ok:(winS s kh kw st pad).Ok) (hn:x.length=szS s) (hwl:l.ws.length=l.bs.length*(s.getD 0 0*(kh*kw))):
  LV Tryz.prog 98 [.agg (stA l s x inp tr)] (.a (.d (rqsD (convG ratO (winS s kh kw st pad).all l.ws l.bs x)))):=by
 have hwin:=ev_windows (l:=l) (x:=x) (inp:=inp) (tr:=tr) h1 h2 h3 h4 hs ok;have bd:=ok.bd;have hal:∀w∈(winS s kh kw st pad).all,w.length=s.getD 0 0*(kh*kw):=fun w h=>Wn.all_len h
 have hmb:∀w∈(winS s kh kw st pad).all,∀z∈w,-1≤z∧z<(x.length:Int):=fun w h z hz=>by
  have:=Wn.mem_b h hz;rw[hn,len3 hs,szS3];exact this
 have hm1:s.getD 0 0*(kh*kw)≤864:=bd.len;have hWl:(winS s kh kw st pad).all.length≤900:=by rw[Wn.all_ln];exact bd.p1
 generalize (winS s kh kw st pad).all=W at *
 generalize s.getD 0 0*(kh*kw)=m at *
 refine LX_run (m:=0) (n0:=0) mix Tryz.func98 rfl rfl rfl rfl ?_;conv=>whnf
 refine .c (hwin) ?_;conv=>whnf
 refine .mk Nat (fun c=>⟨[(18,vl (.int .i64 (c:Nat))),(17,vl (.int .i64 (rqR l.bs).length)),(16,.a (.d (rqsD l.bs))),(4,.a (.d (wnD W))),(3,.a (.own 1 3 (rqR (cvTo ratO W l.ws l.bs x c 0)))),(1,.a (.ptr 0 0))],
  [(0,.box 104 (stA l s x inp tr)),(1,.arr 56 3 (rqR (cvTo ratO W l.ws l.bs x c 0)).length)],2⟩) (fun c=>c≤l.bs.length) (fun c=>l.bs.length-c) 0
  (Wk.trans (Wk.own 3 1 56 3 rfl rfl (zL_ _)) Wk.go) (zL_ _) fun c hc=> ?_
 conv=>whnf
 refine bs (fun g0=> ?_) (fun g0=> ?_)
 ·conv=>whnf
  have hc':c<l.bs.length:=by simpa using g0
  obtain⟨b,hb'⟩:=at_some hc';have eb:l.bs.getD c 0=b:=getD_of hb';have zb:=hb.at hb';refine .mk (c) ((can b).D) (rfl) (at_rq hb') ?_;conv=>whnf
  conv=>whnf
  refine .mk Nat (fun j=>⟨[(25,vl (.int .i64 (j:Nat))),(24,vl (.int .i64 (wnR W).length)),(23,.a (.d (wnD W))),(5,vl (.int .i64 (c:Nat))),(6,.a (.ptr 2 0)),(18,vl (.int .i64 (c:Nat))),(17,vl (.int .i64 (rqR l.bs).length)),(16,.a (.d (rqsD l.bs))),(4,.a (.d (wnD W))),(3,.a (.own 1 3 (rqR (cvTo ratO W l.ws l.bs x c j)))),(1,.a (.ptr 0 0))],
   [(2,.box 56 (can b).A),(0,.box 104 (stA l s x inp tr)),(1,.arr 56 3 (rqR (cvTo ratO W l.ws l.bs x c j)).length)],3⟩) (fun j=>j≤W.length) (fun j=>W.length-j) 0
   Wk.go (zL_ _) fun j hj=> ?_
  conv=>whnf
  refine bs (fun g1=> ?_) (fun g1=> ?_)
  ·conv=>whnf
   have hj':j<W.length:=by simpa using g1
   obtain⟨w,hw'⟩:=at_some hj';have hwm:=mG_ hw';have hwlen:=hal w hwm;refine .mk (j) ([inD w]) (rfl) (at_wn hw') ?_;conv=>whnf
   conv=>whnf
   refine .mk Nat (fun k=>⟨[(32,vl (.int .i64 (k:Nat))),(31,vl (.int .i64 (inR w).length)),(30,.a (.d (inD w))),(9,.a (.ptr 3 0)),(8,.a (.d (inD w))),(25,vl (.int .i64 (j:Nat))),(24,vl (.int .i64 (wnR W).length)),(23,.a (.d (wnD W))),(5,vl (.int .i64 (c:Nat))),(6,.a (.ptr 2 0)),(18,vl (.int .i64 (c:Nat))),(17,vl (.int .i64 (rqR l.bs).length)),(16,.a (.d (rqsD l.bs))),(4,.a (.d (wnD W))),(3,.a (.own 1 3 (rqR (cvTo ratO W l.ws l.bs x c j)))),(1,.a (.ptr 0 0))],
    [(3,.box 56 (can (cvN ratO l.ws (c*w.length) w x b k)).A),(2,.box 56 (can b).A),(0,.box 104 (stA l s x inp tr)),(1,.arr 56 3 (rqR (cvTo ratO W l.ws l.bs x c j)).length)],4⟩) (fun k=>k≤w.length) (fun k=>w.length-k) 0
    Wk.go (zL_ _) fun k hk=> ?_
   have hd:=pt_rat.cvN hL (c*w.length) w hw hx zb k;conv=>whnf
   refine bs (fun g2=> ?_) (fun g2=> ?_)
   ·conv=>whnf
    have hk':k<w.length:=by simpa using g2
    obtain⟨z,hz⟩:=at_some hk';obtain⟨z1,z2⟩:=hmb w hwm z (mG_ hz);have ez:w.getD k 0=z:=getD_of hz;refine .mk (k) ([D.lit (.int .i64 z)]) (rfl) (at_inR hz) ?_;conv=>whnf
    conv=>whnf
    refine bs (fun g3=> ?_) (fun g3=> ?_)
    ·conv=>whnf
     have hz0:0≤z:=of_decide_eq_true g3;obtain⟨zn,rfl⟩:∃n:Nat,z=n:=⟨z.toNat,by omega⟩;obtain⟨v,hv⟩:=at_some (l:=x) (i:=zn) (by omega);have hix:c*w.length+k<l.ws.length:=by
      rw[hwl,hwlen];have:=Nat.mul_le_mul_right m (show c+1≤l.bs.length from hc');rw[Nat.add_mul]at this;omega
     obtain⟨u,hu⟩:=at_some hix;have zv:=hx.at hv;have zu:=hw.at hu;have hm:c*w.length≤24*864:=Nat.mul_le_mul (by omega) (by omega);have ei:IntKind.i64.wrap (IntKind.i64.wrap ((c:Int)*((inR w).length:Int))+(k:Int))=((c*w.length+k:Nat):Int):=by
      rw[List.length_map,←Int.natCast_mul,wrN (n:=c*w.length) (by omega),←Int.natCast_add,wrN (by omega)]
     have es:cvN ratO l.ws (c*w.length) w x b (k+1)=cvN ratO l.ws (c*w.length) w x b k+u*v:=by
      rw[cvN,ez,if_pos hz0,atO,Int.toNat_natCast,getD_of hv,getD_of hu];rfl
     generalize cvN ratO l.ws (c*w.length) w x b k=y at *
     rw[ei];refine .mk ((c*w.length+k)) ((can u).D) (rfl) (at_rq hu) ?_;conv=>whnf
     conv=>whnf
     refine .mk (zn) ((can v).D) (rfl) (at_rq hv) ?_;conv=>whnf
     conv=>whnf
     refine .c (lx_rmul (.c (zu.z hL (by omega))) (.c (zv.z hL (by omega)))) ?_;conv=>whnf
     refine .c (lx_radd (.c (hd.z hL (by omega) (by omega))) (.c ((zu.mul zv).z hL (by omega)))) ?_;conv=>whnf
     refine .mk (by kernel_rfl) ?_;conv=>whnf
     exact⟨k+1,by rw[es];exact Wk.go,hk',by omega⟩
    ·conv=>whnf
     have hz0:=of_decide_eq_false g3;exact⟨k+1,by rw[cvN,ez,if_neg hz0];exact Wk.go,hk',by omega⟩
   ·conv=>whnf
    have ek:k=w.length:=by simp at g2;omega
    subst ek;have hln:=cvTo_len ratO W l.ws l.bs x c j;have hq:c*W.length≤24*900:=Nat.mul_le_mul (by omega) hWl;refine .mk (rqR (cvTo ratO W l.ws l.bs x c j++[cvN ratO l.ws (c*w.length) w x b w.length])) rfl (by rw[rqR,List.map_append];rfl) (by rw[rqR,List.length_map,List.length_append];simp only[List.length_singleton];omega) ?_;conv=>whnf
    exact⟨j+1,by rw[cvTo_snoc ratO W l.ws l.bs x c j hw',eb];exact Wk.go,hj',by omega⟩
  ·conv=>whnf
   have ej:j=W.length:=by simp at g1;omega
   subst ej;exact⟨c+1,by rw[←cvTo_end];exact Wk.go,hc',by omega⟩
 ·conv=>whnf
  have ec:c=l.bs.length:=by simp at g0;omega
  subst ec;exact .s ⟨by rw[cvTo_all];rfl,rfl⟩
theorem lit0_wk:WkV (.agg [.d (.lit (.bool false)),.d (.nat 0),.d (.nat 0)]) (ratV 0):=rat0V▸vR_ _
theorem ev_fold {F:FuncId}{φ:Rat→Rat→Rat}{l:List Rat}{a:Rat}{P:Nat→Rat→Prop}(he:entT Tryz.prog F=true)(hl:l.length≤1000000)(h0:P 0 a)
  (hF:∀(i:Nat) (a v:Rat),l[i]? =some v→P i a→P (i+1) (φ a v)∧LV Tryz.prog F [ratV a,ratV v] (ratV (φ a v))):LV Tryz.prog 102 [ratV a,.a (.d (rqsD l)),.a (.fn (.func F) [] [])] (ratV (l.foldl φ a)):=by
 refine LX_run (m:=0) (n0:=0) mix Tryz.func102 rfl rfl rfl rfl ?_;conv=>whnf
 refine .mk (Nat×Rat) (fun(i,a)=>⟨[(11,vl (.int .i64 (i:Nat))),(10,vl (.int .i64 (rqR l).length)),(9,.a (.d (rqsD l))),(2,.a (.fn (.func F) [] [])),(3,.a (.ptr 0 0)),(6,.a (.ptr 1 0))],
  [(0,.box 56 (can a).A),(1,.box 56 [.d (.lit (.bool false)),.d (.nat 0),.d (.nat 0)])],2⟩) (fun b=>b.1≤l.length∧P b.1 b.2∧b.2=(l.take b.1).foldl φ a) (fun b=>l.length-b.1) (0,a)
  Wk.go ⟨zL_ _,h0,rfl⟩ fun⟨i,y⟩ hb=> ?_
 obtain⟨hi,hP,hy⟩:=hb;simp only at hi hP hy;conv=>whnf
 refine bs (fun g0=> ?_) (fun g0=> ?_)
 ·conv=>whnf
  have hi':i<l.length:=by simpa using g0
  obtain⟨v,hv⟩:=at_some hi';obtain⟨p1,p2⟩:=hF i y v hv hP;refine .mk (i) ((can v).D) (rfl) (at_rq hv) ?_;conv=>whnf
  conv=>whnf
  refine Cn.c p2 ?_ he;conv=>whnf
  exact⟨(i+1,φ y v),Wk.go,⟨hi',p1,by simp only;rw[take_snoc hv,List.foldl_append,←hy];rfl⟩,by simp only;omega⟩
 ·conv=>whnf
  have ei:i=l.length:=by simp at g0;omega
  subst ei;rw[List.take_length]at hy;subst hy;exact .q ⟨rfl,rfl⟩
theorem ev_average {l:List Rat}{L e:Nat}(hL:LOk L)(he:e≤10000)(hx:Ll L e l)(hl:l.length≤1000)(h0:1≤l.length):LV Tryz.prog 104 [.a (.d (rqsD l))] (ratV (meanG ratO l)):=by
 have hsum:=pt_rat.sum0 hx
 have hc:LV Tryz.prog 102 [ratV 0,.a (.d (rqsD l)),.a (.fn (.func 74) [] [])] (ratV (sumG ratO l)):=
  ev_fold (φ:=fun a b=>a+b) (P:=fun i a=>Lw L e (i+1) a∧i≤l.length) rfl (by omega) ⟨Lv.zero.w,zL_ _⟩ fun i a v hv ⟨hp,_⟩=>by
   have hi:=at_lt hv;exact⟨⟨hp.add (hx.at hv).w,by omega⟩,lx_radd (.c (hp.z hL (by omega) (by omega))) (.c ((hx.at hv).z hL (by omega)))⟩
 have hn:((l.length:Int):Rat)≠0:=by
  have h1:(l.length:Int)≠0:=by omega
  exact_mod_cast h1
 have bn:Bt 10 ((l.length:Int):Rat):=Bt.int (show((l.length:Int)).natAbs≤2^10 by rw[Int.natAbs_natCast];omega);have e1:sumG ratO l/((l.length:Int):Rat)=meanG ratO l:=by
  show _=1/(l.length:Rat)*sumG ratO l;rw[Rat.div_def,Rat.div_def,Rat.one_mul,Rat.mul_comm];rfl
 refine LX_run (m:=0) (n0:=0) mix Tryz.func104 rfl rfl rfl rfl ?_;conv=>whnf
 refine Cn.as hc rfl ⟨lit0_wk,vR_ _,vR_ _,trivial⟩ rfl rfl ?_;conv=>whnf
 rw[List.length_map];refine .c (lx_rof (z:=(l.length:Int)) (by omega) (by omega)) ?_;conv=>whnf
 refine .c (lx_rdiv hn (.c (hsum.z hL (by omega) (by omega))) (.c (bn.mono (by omega)))) ?_;conv=>whnf
 exact .q ⟨by rw[e1],rfl⟩
theorem ev_max {l:List Rat}{L e:Nat}(hL:LOk L)(he:e≤10000)(hx:Ll L e l)(hl:l.length≤1000)(h0:1≤l.length):LV Tryz.prog 101 [.a (.d (rqsD l))] (ratV (maxL l)):=by
 match l,h0 with
 |a::l,_=>
  have hc:LV Tryz.prog 102 [ratV a,.a (.d (rqsD l)),.a (.fn (.func 68) [] [])] (ratV (l.foldl maxQ a)):=
   ev_fold (φ:=maxQ) (P:=fun i a=>Lv L e a) rfl (by simp only[List.length_cons]at hl;omega) (hx a (by simp)) fun i a v hv hp=>
    have hv':Lv L e v:=hx v (by simp[mG_ hv])
    ⟨hp.max hv',lx_rmax (.c (hp.z hL (by omega))) (.c (hv'.z hL (by omega)))⟩
  refine LX_run (m:=0) (n0:=0) mix Tryz.func101 rfl rfl rfl rfl ?_;conv=>whnf
  refine .mk (0) ((can a).D) (rfl) (rfl) ?_;conv=>whnf
  conv=>whnf
  refine .mk 1 (l.length+1) (rqR l) rfl (by rw[List.length_map,List.length_cons];rfl) (by omega) (by rw[List.length_map,List.length_cons];omega) (by rw[List.take_of_length_le (by rw[List.length_map,List.length_cons];omega)];rfl) ?_;conv=>whnf
  refine .c (hc) ?_;conv=>whnf
  refine .mk (by kernel_rfl) ?_;conv=>whnf
  exact .q ⟨rfl,rfl⟩
def pkTo (W:List (List Int))(n:Nat)(x:List Rat)(c j:Nat):List (List Rat):=((List.range c).flatMap fun ch=>W.map fun w=>pick ratO x n w ch)++(W.take j).map fun w=>pick ratO x n w c
theorem pkTo_end (W:List (List Int))(n:Nat)(x:List Rat)(c:Nat):pkTo W n x c W.length=pkTo W n x (c+1) 0:=by
 unfold pkTo;rw[range_fm_snoc,List.take_length,List.take_zero,List.map_nil,List.append_nil]
theorem pkTo_snoc (W:List (List Int))(n:Nat)(x:List Rat)(c j:Nat){w:List Int}(h:W[j]? =some w):pkTo W n x c (j+1)=pkTo W n x c j++[pick ratO x n w c]:=by
 unfold pkTo;rw[take_snoc h,List.map_append,←List.append_assoc];rfl
theorem pkTo_all (W:List (List Int))(n:Nat)(x:List Rat)(c:Nat):pkTo W n x c 0=picks ratO W c n x:=by
 unfold pkTo picks;rw[List.take_zero,List.map_nil,List.append_nil]
theorem pkTo_len (W:List (List Int))(n:Nat)(x:List Rat)(c j:Nat):(pkTo W n x c j).length≤c*W.length+j:=by
 unfold pkTo;rw[List.length_append,fm_len (fun i=>List.length_map ..),List.length_map,List.length_take];omega
theorem ev_pick1 {l:Ly}{s:List Nat}{x inp:List Rat}{tr:List (List Rat)}{o:List Rat}{z:Nat}{v:Rat}(hv:x[z]? =some v)(ho:o.length≤1000000):
  LX Tryz.prog 152 [.a (.own 1 3 (rqR o)),vl (.int .i64 (z:Nat)),.a (.ptr 0 0)] [(0,.box 104 (stA l s x inp tr)),(1,.arr 56 3 (rqR o).length)]
   fun v' H=>v'= .a (.own 1 3 (rqR (o++[v])))∧H=[(0,.box 104 (stA l s x inp tr)),(1,.arr 56 3 (rqR (o++[v])).length)]:=by
 refine LX_run (m:=2) (n0:=2) mix Tryz.func152 rfl rfl rfl rfl ?_;conv=>whnf
 refine .mk (z) ((can v).D) (rfl) (at_rq hv) ?_;conv=>whnf
 conv=>whnf
 refine .mk (rqR (o++[v])) rfl (by rw[rqR,List.map_append];rfl) (by simp;omega) ?_;conv=>whnf
 exact⟨_,_,⟨rfl,rfl⟩,vR_ _,rfl,⟨⟨_,rfl,wke_refl _,rfl⟩,⟨_,rfl,wke_refl _,rfl⟩,trivial⟩,rfl⟩
theorem ev_pick {l:Ly}{s:List Nat}{x inp:List Rat}{tr:List (List Rat)}{zs:List Int}(hz:∀z∈zs,0≤z∧z<(x.length:Int))(hl:zs.length≤1000):
  LX Tryz.prog 151 [vl (.slice none 0 0),.a (.d (inD zs)),.a (.fn (.func 152) [] [.ptr 0 0])] [(0,.box 104 (stA l s x inp tr))]
   fun v' H=>v'= .a (.d (rqsD (zs.map fun i=>atO ratO x i.toNat)))∧H=[(0,.box 104 (stA l s x inp tr))]:=by
 refine LX_run (m:=1) (n0:=1) mix Tryz.func151 rfl rfl rfl rfl ?_;conv=>whnf
 refine .mk Nat (fun i=>⟨[(11,vl (.int .i64 (i:Nat))),(10,vl (.int .i64 (inR zs).length)),(9,.a (.d (inD zs))),(2,.a (.fn (.func 152) [] [.ptr 0 0])),(0,.a (.own 1 3 (rqR ((zs.take i).map fun i=>atO ratO x i.toNat))))],
  [(0,.box 104 (stA l s x inp tr)),(1,.arr 56 3 (rqR ((zs.take i).map fun i=>atO ratO x i.toNat)).length)],2⟩) (fun i=>i≤zs.length) (fun i=>zs.length-i) 0
  (Wk.trans (Wk.own 0 1 56 3 rfl rfl (lR_ _)) Wk.go) (zL_ _) fun i hi=> ?_
 generalize hO:(zs.take i).map (fun i=>atO ratO x i.toNat)=O;conv=>whnf
 refine bs (fun g0=> ?_) (fun g0=> ?_)
 ·conv=>whnf
  have hi':i<zs.length:=by simpa using g0
  obtain⟨z,hz'⟩:=at_some hi';obtain⟨z1,z2⟩:=hz z (mG_ hz');obtain⟨zn,rfl⟩:∃n:Nat,z=n:=⟨z.toNat,by omega⟩;obtain⟨v,hv⟩:=at_some (l:=x) (i:=zn) (by omega);refine .mk (i) ([D.lit (.int .i64 (zn:Nat))]) (rfl) (at_inR hz') ?_;conv=>whnf
  conv=>whnf
  refine Cn.o [0,1] (ev_pick1 (o:=O) hv (by rw[←hO,List.length_map,List.length_take];omega)) ?_;conv=>whnf
  exact⟨i+1,by rw[take_snoc hz',List.map_append,hO,List.map_cons,List.map_nil,Int.toNat_natCast,atO,getD_of hv];exact Wk.go,hi',by omega⟩
 ·conv=>whnf
  have ei:i=zs.length:=by simp at g0;omega
  subst ei;rw[List.take_length]at hO;exact⟨_,_,⟨rfl,rfl⟩,by rw[hO];exact stripV_ok _,rfl,⟨⟨_,rfl,wke_refl _,rfl⟩,trivial⟩,rfl⟩
theorem ev_pool {F:FuncId}{φ:List Rat→Rat}{l:Ly}{s:List Nat}{x inp:List Rat}{tr:List (List Rat)}{kh kw st pad:Nat}(he:entT Tryz.prog F=true)(hp:pad=0)
  (h1:l.kh=kh) (h2:l.kw=kw) (h3:l.st=st) (h4:l.pad=pad) (hs:s.length=3) (ok:(winS s kh kw st pad).Ok) (hn:x.length=szS s)
  (hF:∀y∈picks ratO (winS s kh kw st pad).all (s.getD 0 0) (kh*kw) x,LV Tryz.prog F [.a (.d (rqsD y))] (ratV (φ y))):
  LV Tryz.prog 100 [.agg (stA l s x inp tr),.a (.fn (.func F) [] [])] (.a (.d (rqsD ((picks ratO (winS s kh kw st pad).all (s.getD 0 0) (kh*kw) x).map φ)))):=by
 have hwin:=ev_windows (l:=l) (x:=x) (inp:=inp) (tr:=tr) h1 h2 h3 h4 hs ok;obtain⟨lk,lf,lo,lkh,lkw,lst,lpad,lws,lbs⟩:=l;simp only at h1 h2 h3 h4;subst h1 h2 h3 h4;have bd:=ok.bd;have hal:∀w∈(winS s kh kw st pad).all,w.length=s.getD 0 0*(kh*kw):=fun w h=>Wn.all_len h
 have hmb:∀w∈(winS s kh kw st pad).all,∀z∈w,0≤z∧z<(x.length:Int):=fun w h z hz=>by
  have:=Wn.mem_b h hz;rw[hn,len3 hs,szS3];exact⟨Wn.mem_nn hp ok h hz,this.2⟩
 have hc24:s.getD 0 0≤24:=bd.c;have hkk:kh*kw≤36:=ok.n.2;have hm1:s.getD 0 0*(kh*kw)≤864:=bd.len;have hWl:(winS s kh kw st pad).all.length≤900:=by rw[Wn.all_ln];exact bd.p1
 have hk6:kh≤6∧kw≤6:=⟨ok.kh.2,ok.kw.2⟩;have hs0:s[0]? =some (s.getD 0 0):=by rw[len3 hs];rfl
 generalize (winS s kh kw st pad).all=W at *
 generalize hC:s.getD 0 0=C at *
 have ekk:IntKind.i64.wrap ((kh:Int)*(kw:Int))=((kh*kw:Nat):Int):=by rw[←Int.natCast_mul,wrN (by omega)]
 generalize hN:kh*kw=n at *
 refine LX_run (m:=0) (n0:=0) mix Tryz.func100 rfl rfl rfl rfl ?_;conv=>whnf
 refine .c (hwin) ?_;conv=>whnf
 rw[ekk];refine .mk (0) ([D.lit (.int .i64 (C:Nat))]) (rfl) (at_nI hs0) ?_;conv=>whnf
 conv=>whnf
 refine .mk Nat (fun c=>⟨[(24,vl (.int .i64 (c:Nat))),(23,vl (.int .i64 (C:Nat))),(7,vl (.int .i64 (n:Nat))),(6,.a (.d (wnD W))),(1,.a (.fn (.func F) [] [])),(5,.a (.own 1 3 (rqR ((pkTo W n x c 0).map φ)))),(2,.a (.ptr 0 0))],
  [(0,.box 104 (stA ⟨lk,lf,lo,kh,kw,st,pad,lws,lbs⟩ s x inp tr)),(1,.arr 56 3 (rqR ((pkTo W n x c 0).map φ)).length)],2⟩) (fun c=>c≤C) (fun c=>C-c) 0
  (Wk.trans (Wk.own 5 1 56 3 rfl rfl (zL_ _)) Wk.go) (zL_ _) fun c hc=> ?_
 conv=>whnf
 refine bs (fun g0=> ?_) (fun g0=> ?_)
 ·conv=>whnf
  have hc':c<C:=by simpa using g0
  refine .mk Nat (fun j=>⟨[(29,vl (.int .i64 (j:Nat))),(28,vl (.int .i64 (wnR W).length)),(27,.a (.d (wnD W))),(8,vl (.int .i64 (c:Nat))),(24,vl (.int .i64 (c:Nat))),(23,vl (.int .i64 (C:Nat))),(7,vl (.int .i64 (n:Nat))),(6,.a (.d (wnD W))),(1,.a (.fn (.func F) [] [])),(5,.a (.own 1 3 (rqR ((pkTo W n x c j).map φ)))),(2,.a (.ptr 0 0))],
   [(0,.box 104 (stA ⟨lk,lf,lo,kh,kw,st,pad,lws,lbs⟩ s x inp tr)),(1,.arr 56 3 (rqR ((pkTo W n x c j).map φ)).length)],2⟩) (fun j=>j≤W.length) (fun j=>W.length-j) 0
   Wk.go (zL_ _) fun j hj=> ?_
  conv=>whnf
  refine bs (fun g1=> ?_) (fun g1=> ?_)
  ·conv=>whnf
   have hj':j<W.length:=by simpa using g1
   obtain⟨w,hw'⟩:=at_some hj';have hwm:=mG_ hw';have hwlen:=hal w hwm;have b0:(c+1)*n≤C*n:=Nat.mul_le_mul_right _ hc';have b1:c*n≤(c+1)*n:=Nat.mul_le_mul_right _ (by omega);have b2:C*n≤24*36:=Nat.mul_le_mul hc24 hkk;have e1:IntKind.i64.wrap ((c:Int)*(n:Int))=((c*n:Nat):Int):=by rw[←Int.natCast_mul,wrN (by omega)]
   have e2:IntKind.i64.wrap ((c:Int)+1)=((c+1:Nat):Int):=by rw[wr64 (by omega) (by omega)];omega
   have e3:IntKind.i64.wrap (((c+1:Nat):Int)*(n:Int))=(((c+1)*n:Nat):Int):=by rw[←Int.natCast_mul,wrN (by omega)]
   have hpm:pick ratO x n w c∈picks ratO W C n x:=List.mem_flatMap.2 ⟨c,List.mem_range.2 hc',List.mem_map.2 ⟨w,hwm,rfl⟩⟩;have hpk:=ev_pick (l:=⟨lk,lf,lo,kh,kw,st,pad,lws,lbs⟩) (s:=s) (x:=x) (inp:=inp) (tr:=tr) (zs:=(w.take ((c+1)*n)).drop (c*n)) (fun z hz=>hmb w hwm z (List.mem_of_mem_take (List.mem_of_mem_drop hz))) (by rw[List.length_drop,List.length_take];omega);refine .mk (j) ([inD w]) (rfl) (at_wn hw') ?_;conv=>whnf
   conv=>whnf
   rw[e1,e2,e3];refine .mk (c*n) ((c+1)*n) (inR ((w.take ((c+1)*n)).drop (c*n))) rfl rfl (by omega) (by rw[List.length_map];omega) (by rw[inR,inR,List.map_drop,List.map_take]) ?_;conv=>whnf
   refine .l [0] (hpk) ?_;conv=>whnf
   refine Cn.c (hF _ hpm) ?_ he;conv=>whnf
   have hln:=pkTo_len W n x c j;have hq:c*W.length≤24*900:=Nat.mul_le_mul (by omega) hWl;refine .mk (rqR ((pkTo W n x c j).map φ++[φ (pick ratO x n w c)])) rfl (by rw[rqR,List.map_append];rfl) (by rw[rqR,List.length_map,List.length_append,List.length_map];simp only[List.length_singleton];omega) ?_;conv=>whnf
   exact⟨j+1,by rw[pkTo_snoc W n x c j hw',List.map_append];exact Wk.go,hj',by omega⟩
  ·conv=>whnf
   have ej:j=W.length:=by simp at g1;omega
   subst ej;exact⟨c+1,by rw[←pkTo_end];exact Wk.go,hc',by omega⟩
 ·conv=>whnf
  have ec:c=C:=by simp at g0;omega
  subst ec;exact .s ⟨by rw[pkTo_all];rfl,rfl⟩
theorem ev_same {l:Ly}{s:List Nat}{x inp:List Rat}{tr:List (List Rat)}(hx:x.length≤1000):LV Tryz.prog 108 [.agg (stA l s x inp tr)] (.a (.d (rqsD x))):=by
 refine LX_run (m:=0) (n0:=0) mix Tryz.func108 rfl rfl rfl rfl ?_;conv=>whnf
 refine .own ?_;conv=>whnf
 refine .mk (rqR x) rfl rfl (by rw[List.length_map];omega) ?_;conv=>whnf
 exact .s ⟨rfl,rfl⟩
def adTo (x y:List Rat)(i:Nat):List Rat:=(List.range i).map fun i=>ratO.add (atO ratO x i) (atO ratO y i)
theorem ev_add {l:Ly}{s:List Nat}{x inp y:List Rat}{tr:List (List Rat)}{L e:Nat}(hL:LOk L)(he:e≤10000)(hx:Ll L e x)(hy:Ll L e y)(hn:x.length≤1000)(hxy:y.length=x.length)
  (hfr:(l.fr<0∧inp=y)∨(0≤l.fr∧tr[l.fr.toNat]? =some y)):LV Tryz.prog 109 [.agg (stA l s x inp tr)] (.a (.d (rqsD (addG ratO x y)))):=by
 refine LX_run (m:=0) (n0:=0) mix Tryz.func109 rfl rfl rfl rfl ?_;conv=>whnf
 refine bs (fun g0=> ?_) (fun g0=> ?_)<;>conv=>whnf
 rotate_left
 have hin:inp=y:=by
  have:=of_decide_eq_false g0;rcases hfr with h|h
  ·exact h.2
  ·omega
 rw[hin]
 rotate_left
 obtain⟨hf,ht⟩:0≤l.fr∧tr[l.fr.toNat]? =some y:=by
  have:=of_decide_eq_true g0;rcases hfr with h|h
  ·omega
  ·exact h
 refine .mk (l.fr.toNat) ([rqsD y]) (by omega) (at_map (f:=fun y=>[rqsD y]) ht) ?_;conv=>whnf
 conv=>whnf
 all_goals
  refine .mk Nat (fun i=>⟨[(23,vl (.int .i64 (i:Nat))),(22,vl (.int .i64 (rqR x).length)),(21,.a (.d (rqsD x))),(3,.a (.d (rqsD y))),(4,.a (.own 1 3 (rqR (adTo x y i))))],
   [(1,.arr 56 3 (rqR (adTo x y i)).length)],2⟩) (fun i=>i≤x.length) (fun i=>x.length-i) 0
   (Wk.trans (Wk.own 4 1 56 3 rfl rfl (zL_ _)) Wk.go) (zL_ _) fun i hi=> ?_
  generalize hO:adTo x y i=O;conv=>whnf
  refine bs (fun g1=> ?_) (fun g1=> ?_)
  ·conv=>whnf
   have hi':i<x.length:=by simpa using g1
   obtain⟨u,hu⟩:=at_some hi';obtain⟨v,hv⟩:=at_some (l:=y) (i:=i) (by omega);have zu:=hx.at hu;have zv:=hy.at hv;refine .mk (i) ((can u).D) (rfl) (at_rq hu) ?_;conv=>whnf
   conv=>whnf
   refine .mk (i) ((can v).D) (rfl) (at_rq hv) ?_;conv=>whnf
   conv=>whnf
   refine .c (lx_radd (.c (zu.z hL (by omega))) (.c (zv.z hL (by omega)))) ?_;conv=>whnf
   refine .mk (rqR (O++[u+v])) rfl (by rw[rqR,List.map_append];rfl) (by rw[rqR,List.length_map,List.length_append,←hO,adTo,List.length_map,List.length_range];simp only[List.length_singleton];omega) ?_;conv=>whnf
   refine .mk (by kernel_rfl) ?_;conv=>whnf
   exact⟨i+1,by rw[adTo,range_map_snoc,show List.map (fun i=>ratO.add (atO ratO x i) (atO ratO y i)) (List.range i)=O from hO,atO,atO,getD_of hu,getD_of hv];exact Wk.go,hi',by omega⟩
  ·conv=>whnf
   have ei:i=x.length:=by simp at g1;omega
   subst ei;exact .s ⟨by rw[←hO];rfl,rfl⟩
theorem ev_relu1 {o:List Rat}{v:Rat}{L e:Nat}(hL:LOk L)(he:e≤10000)(hv:Lv L e v)(ho:o.length≤1000000):
  LX Tryz.prog 107 [.a (.own 0 3 (rqR o)),ratV v] [(0,.arr 56 3 (rqR o).length)]
   fun v' H=>v'= .a (.own 0 3 (rqR (o++[maxQ v 0])))∧H=[(0,.arr 56 3 (rqR (o++[maxQ v 0])).length)]:=by
 refine LX_run (m:=1) (n0:=1) mix Tryz.func107 rfl rfl rfl rfl ?_;conv=>whnf
 refine .c (lx_rmax (.c (hv.z hL (by omega))) ((RQ.c sz0).wk lit0_wk)) ?_;conv=>whnf
 refine .mk (rqR (o++[maxQ v 0])) rfl (by rw[rqR,List.map_append];rfl) (by simp;omega) ?_;conv=>whnf
 exact⟨_,_,⟨rfl,rfl⟩,vR_ _,rfl,⟨⟨_,rfl,wke_refl _,rfl⟩,trivial⟩,rfl⟩
theorem ev_relu {x:List Rat}{L e:Nat}(hL:LOk L)(he:e≤10000)(hx:Ll L e x)(hl:x.length≤1000):
  LV Tryz.prog 106 [vl (.slice none 0 0),.a (.d (rqsD x)),.a (.fn (.func 107) [] [])] (.a (.d (rqsD (x.map fun q=>maxQ q 0)))):=by
 refine LX_run (m:=0) (n0:=0) mix Tryz.func106 rfl rfl rfl rfl ?_;conv=>whnf
 refine .mk Nat (fun i=>⟨[(11,vl (.int .i64 (i:Nat))),(10,vl (.int .i64 (rqR x).length)),(9,.a (.d (rqsD x))),(2,.a (.fn (.func 107) [] [])),(0,.a (.own 0 3 (rqR ((x.take i).map fun q=>maxQ q 0))))],
  [(0,.arr 56 3 (rqR ((x.take i).map fun q=>maxQ q 0)).length)],1⟩) (fun i=>i≤x.length) (fun i=>x.length-i) 0
  (Wk.trans (Wk.own 0 0 56 3 rfl rfl (lR_ _)) Wk.go) (zL_ _) fun i hi=> ?_
 generalize hO:(x.take i).map (fun q=>maxQ q 0)=O;conv=>whnf
 refine bs (fun g0=> ?_) (fun g0=> ?_)
 ·conv=>whnf
  have hi':i<x.length:=by simpa using g0
  obtain⟨v,hv⟩:=at_some hi';refine .mk (i) ((can v).D) (rfl) (at_rq hv) ?_;conv=>whnf
  conv=>whnf
  refine Cn.o [0] (ev_relu1 (o:=O) hL he (hx.at hv) (by rw[←hO,List.length_map,List.length_take];omega)) ?_;conv=>whnf
  exact⟨i+1,by rw[take_snoc hv,List.map_append,hO];exact Wk.go,hi',by omega⟩
 ·conv=>whnf
  have ei:i=x.length:=by simp at g0;omega
  subst ei;rw[List.take_length]at hO;exact .s ⟨by rw[←hO];rfl,rfl⟩
def Lay.ly:Lay→Ly
 | .dense ws bs=>⟨1,0,bs.length,0,0,0,0,ws,bs⟩
 | .conv kh kw st pad ws bs=>⟨2,0,bs.length,kh,kw,st,pad,ws,bs⟩
 | .mx kh kw st=>⟨3,0,0,kh,kw,st,0,[],[]⟩
 | .av kh kw st=>⟨4,0,0,kh,kw,st,0,[],[]⟩
 | .relu=>⟨5,0,0,0,0,0,0,[],[]⟩
 | .flat=>⟨6,0,0,0,0,0,0,[],[]⟩
 | .add fr=>⟨7,fr,0,0,0,0,0,[],[]⟩
structure EvH (L e:Nat)(lay:Lay)(s:List Nat)(x inp:List Rat)(tr:List (List Rat)):Prop where
 lo:LvO L lay
 el:e≤9000
 xl:Ll L e x
 il:Ll L e inp
 tl:∀y∈tr,Ll L e y
 n:x.length=szS s
 s24:szS s≤24
 o24:szS (outS lay s)≤24
 fit:∃i ss,Fit lay i ss s
 add:∀fr,lay= .add fr→ -1≤fr∧(fr+1).toNat<(inp::tr).length∧((inp::tr).getD (fr+1).toNat []).length=x.length
abbrev stB (l:Ly)(s:List Nat)(x inp:List Rat)(tr:List (List Rat)):List (Nat×Ent):=[(0,.box 104 (stA l s x inp tr))]
theorem ev_out1 {l:Ly}{s:List Nat}{x inp y:List Rat}{tr:List (List Rat)}(hc:LV Tryz.prog 100 [.agg (stA l s x inp tr),.a (.fn (.func 101) [] [])] (.a (.d (rqsD y)))):
  LX Tryz.prog 99 [.a (.ptr 0 0)] (stB l s x inp tr) fun v H=>v= .a (.d (rqsD y))∧H=stB l s x inp tr:=by
 refine LX_run (m:=1) (n0:=1) mix Tryz.func99 rfl rfl rfl rfl ?_;conv=>whnf
 refine .c (hc) ?_;conv=>whnf
 exact⟨_,_,⟨rfl,rfl⟩,vR_ _,rfl,⟨⟨_,rfl,wke_refl _,rfl⟩,trivial⟩,rfl⟩
theorem ev_out2 {l:Ly}{s:List Nat}{x inp y:List Rat}{tr:List (List Rat)}(hc:LV Tryz.prog 100 [.agg (stA l s x inp tr),.a (.fn (.func 104) [] [])] (.a (.d (rqsD y)))):
  LX Tryz.prog 103 [.a (.ptr 0 0)] (stB l s x inp tr) fun v H=>v= .a (.d (rqsD y))∧H=stB l s x inp tr:=by
 refine LX_run (m:=1) (n0:=1) mix Tryz.func103 rfl rfl rfl rfl ?_;conv=>whnf
 refine .c (hc) ?_;conv=>whnf
 exact⟨_,_,⟨rfl,rfl⟩,vR_ _,rfl,⟨⟨_,rfl,wke_refl _,rfl⟩,trivial⟩,rfl⟩
theorem ev_out3 {l:Ly}{s:List Nat}{x inp y:List Rat}{tr:List (List Rat)}(hc:LV Tryz.prog 106 [vl (.slice none 0 0),.a (.d (rqsD x)),.a (.fn (.func 107) [] [])] (.a (.d (rqsD y)))):
  LX Tryz.prog 105 [.a (.ptr 0 0)] (stB l s x inp tr) fun v H=>v= .a (.d (rqsD y))∧H=stB l s x inp tr:=by
 refine LX_run (m:=1) (n0:=1) mix Tryz.func105 rfl rfl rfl rfl ?_;conv=>whnf
 refine .c (hc) ?_;conv=>whnf
 exact⟨_,_,⟨rfl,rfl⟩,vR_ _,rfl,⟨⟨_,rfl,wke_refl _,rfl⟩,trivial⟩,rfl⟩
theorem ll_pick {L e:Nat}{x:List Rat}(hx:Ll L e x){W:List (List Int)}{c n:Nat}:∀y∈picks ratO W c n x,Ll L e y:=fun y hy=>by
 obtain⟨ch,w,_,_,rfl⟩:=picks_mem hy;exact pick_lv pt_rat hx
theorem picks_ln1 {x:List Rat}{s:List Nat}{kh kw st pad:Nat}:∀y∈picks ratO (winS s kh kw st pad).all (s.getD 0 0) (kh*kw) x,y.length=kh*kw:=fun y hy=>by
 obtain⟨ch,w,h1,h2,rfl⟩:=picks_mem hy;exact pick_ln (Wn.all_len h2) h1
theorem ev_output {L e:Nat}{lay:Lay}{s:List Nat}{x inp:List Rat}{tr:List (List Rat)}(h:EvH L e lay s x inp tr):
  LV Tryz.prog 56 [.agg (stA lay.ly s x inp tr)] (.a (.d (rqsD (eLay lay s (inp::tr) x)))):=by
 obtain⟨lo,he,hx,hinp,htr,hn,hs,ho,⟨i,ss,hf⟩,hadd⟩:=h;have hL:=lo.ok
 cases lay with
 |dense ws bs=>
  have hb:bs.length≤24:=by simpa [outS,szS1]using ho
  have c:=ev_dense (l:=Lay.ly (.dense ws bs)) (s:=s) (inp:=inp) (tr:=tr) hL (by omega) hx (fun q hq=>lo.par q (List.mem_append_left _ hq)) (fun q hq=>lo.par q (List.mem_append_right _ hq)) (by omega) hb (by rw[hn];exact hf.2);refine LX_run (m:=0) (n0:=0) mix Tryz.func56 rfl rfl rfl rfl ?_;conv=>whnf
  refine .c (c) ?_;conv=>whnf
  exact .q ⟨rfl,rfl⟩
 |conv kh kw st pad ws bs=>
  have hb:bs.length≤24:=by
   have bd:=hf.1.bd;simp only[outS,szS3]at ho;exact tL_ (tL_ (Nat.le_mul_of_pos_right _ bd.r1) (Nat.le_mul_of_pos_right _ bd.q1)) ho
  have c:=ev_conv (l:=Lay.ly (.conv kh kw st pad ws bs)) (s:=s) (inp:=inp) (tr:=tr) hL (by omega) hx (fun q hq=>lo.par q (List.mem_append_left _ hq)) (fun q hq=>lo.par q (List.mem_append_right _ hq)) hb rfl rfl rfl rfl hf.2.1 hf.1 hn hf.2.2.2;refine LX_run (m:=0) (n0:=0) mix Tryz.func56 rfl rfl rfl rfl ?_;conv=>whnf
  refine .c (c) ?_;conv=>whnf
  exact .q ⟨rfl,rfl⟩
 |mx kh kw st=>
  have b1:1≤kh*kw:=hf.1.n.1;have b2:kh*kw≤36:=hf.1.n.2
  have c:=ev_pool (F:=101) (φ:=maxL) (l:=Lay.ly (.mx kh kw st)) (s:=s) (inp:=inp) (tr:=tr) rfl rfl rfl rfl rfl rfl hf.2 hf.1 hn fun y hy=>by
   have:=picks_ln1 y hy;exact ev_max hL (by omega) (ll_pick hx y hy) (by omega) (by omega)
  refine LX_run (m:=0) (n0:=0) mix Tryz.func56 rfl rfl rfl rfl ?_;conv=>whnf
  refine .l [0] (ev_out1 c) ?_;conv=>whnf
  exact .q ⟨rfl,rfl⟩
 |av kh kw st=>
  have b1:1≤kh*kw:=hf.1.n.1;have b2:kh*kw≤36:=hf.1.n.2
  have c:=ev_pool (F:=104) (φ:=meanG ratO) (l:=Lay.ly (.av kh kw st)) (s:=s) (inp:=inp) (tr:=tr) rfl rfl rfl rfl rfl rfl hf.2 hf.1 hn fun y hy=>by
   have:=picks_ln1 y hy;exact ev_average hL (by omega) (ll_pick hx y hy) (by omega) (by omega)
  refine LX_run (m:=0) (n0:=0) mix Tryz.func56 rfl rfl rfl rfl ?_;conv=>whnf
  refine .l [0] (ev_out2 c) ?_;conv=>whnf
  exact .q ⟨rfl,rfl⟩
 |relu=>
  refine LX_run (m:=0) (n0:=0) mix Tryz.func56 rfl rfl rfl rfl ?_;conv=>whnf
  refine .l [0] (ev_out3 (ev_relu hL (by omega) hx (by omega))) ?_;conv=>whnf
  exact .q ⟨rfl,rfl⟩
 |flat=>
  refine LX_run (m:=0) (n0:=0) mix Tryz.func56 rfl rfl rfl rfl ?_;conv=>whnf
  refine .c (ev_same (l:=Lay.ly .flat) (s:=s) (inp:=inp) (tr:=tr) (by omega)) ?_;conv=>whnf
  exact .q ⟨rfl,rfl⟩
 |add fr=>
  obtain⟨a1,a2,a3⟩:=hadd fr rfl;have hy:Ll L e ((inp::tr).getD (fr+1).toNat []):=by
   rw[List.getD_eq_getElem?_getD,List.getElem?_eq_getElem a2];rcases List.mem_cons.1 (List.getElem_mem a2)with h|h
   ·rw[h];exact hinp
   ·exact htr _ h
  have c:=ev_add (l:=Lay.ly (.add fr)) (s:=s) (inp:=inp) (tr:=tr) hL (by omega) hx hy (by omega) a3 (by
   by_cases hfr:fr<0
   ·refine .inl ⟨hfr,?_⟩;rw[show(fr+1).toNat=0 by omega];rfl
   ·refine .inr ⟨show(0:Int)≤fr by omega,?_⟩;have e1:(fr+1).toNat=fr.toNat+1:=by omega
    rw[e1]at a2;simp only[List.length_cons]at a2;rw[e1,List.getD_cons_succ,List.getD_eq_getElem?_getD,show(Lay.add fr).ly.fr=fr from rfl,List.getElem?_eq_getElem (by omega)];rfl)
  refine LX_run (m:=0) (n0:=0) mix Tryz.func56 rfl rfl rfl rfl ?_;conv=>whnf
  refine .c (c) ?_;conv=>whnf
  exact .q ⟨rfl,rfl⟩
end Go.Proofs.YtbegidaaiajffaaGreatDoor.Lf
namespace Go.Proofs.YtbegidaaiajffaaGreatDoor
open Go.RowKit Nt
theorem sleq_any (v v':Value)(xs:List Nat)(w:World)(h:Sl w v xs)(h':Sl w v' xs):Calls Tryz.prog 220 #[v,v'] w (Ret w (Val (.bool true))):=by
 obtain⟨ad,n,cap,rfl,hn,hnc,hm,-,hs⟩:=h;obtain⟨ad',n',cap',rfl,hn',hnc',hm',-,hs'⟩:=h';obtain rfl:n=n':=by omega
 have Hn:=lH hn;clear hn hn'
 go_enter Tryz.func220,Tryz.ntmps220
 go_wp2
 go_loopw [13] (fun i wr=>∃k:Nat,k≤n∧i= .int .i64 k∧Below w.heap.size w wr) (fun i _=>n-(intOf i).toNat)
 case atStart=>exact⟨0,zL_ _,rfl,bR_ _ _⟩
 case round=>
  obtain⟨k,hk,rfl,hb⟩:=hrel
  by_cases hkn:k<n
  ·obtain⟨b,off,rfl,hbw,hc⟩:=hs (by omega);obtain⟨b',off',rfl,hbw',hc'⟩:=hs' (by omega);have c1:=(hb.cell (p:=⟨b,off+k,none⟩) hbw).trans (hc k hkn);have c2:=(hb.cell (p:=⟨b',off'+k,none⟩) hbw').trans (hc' k hkn);clear hc hc' hs hs';go_wp2
   go_quiet (fail)
   go_wp2
   go_roundw
   case rel=>exact⟨k+1,by omega,by go_num,below_drewN hb _⟩
   case measure=>simp[intOf];omega
  ·clear hs hs';go_wp2
   go_ret
   exact⟨_,rfl,rfl,hb⟩
end Go.Proofs.YtbegidaaiajffaaGreatDoor
namespace Go.Proofs.YtbegidaaiajffaaGreatDoor.Lf
open Go.RowKit Nt
theorem lx_neq {xs:List Nat}:LV Tryz.prog 220 [.a (.d (.lm xs)),.a (.d (.lm xs))] (vl (.bool true)):=lv_of fun γ M w rs ha=>by
 obtain⟨r,s,rfl,k1,k2⟩:=all2_2 ha;exact Calls.ret (sleq_any _ _ _ _ (rd_sl k1) (rd_sl k2)) fun _ _=>Val.ov
theorem lx_rats1 {b:Bool}{xs ys:List Nat}:LV Tryz.prog 219 [rawV b xs ys,rawV b xs ys] (vl (.bool true)):=by
 cases b
 all_goals
  refine LX_run (m:=0) (n0:=0) mix Tryz.func219 rfl rfl rfl rfl ?_;conv=>whnf
  refine .c (lx_neq) ?_;conv=>whnf
  refine .c (lx_neq) ?_;conv=>whnf
  exact .q ⟨rfl,rfl⟩
theorem lx_eqf {l:List Rat}(hl:l.length≤1000000):LV Tryz.prog 218 [.a (.d (rqsD l)),.a (.d (rqsD l)),.a (.fn (.func 219) [] [])] (vl (.bool true)):=by
 refine LX_run (m:=0) (n0:=0) mix Tryz.func218 rfl rfl rfl rfl ?_;conv=>whnf
 refine bF (by simp) ?_;conv=>whnf
 refine .mk Nat (fun i=>⟨[(17,vl (.int .i64 (i:Nat))),(16,vl (.int .i64 (rqR l).length)),(15,.a (.d (rqsD l))),(2,.a (.fn (.func 219) [] [])),(1,.a (.d (rqsD l)))],[],0⟩) (fun i=>i≤l.length) (fun i=>l.length-i) 0 Wk.go (zL_ _) fun i hi=> ?_;conv=>whnf
 refine bs (fun g0=> ?_) (fun g0=> ?_)
 ·conv=>whnf
  have hi':i<l.length:=by simpa using g0
  obtain⟨v,hv⟩:=at_some hi';refine .mk (i) ((can v).D) (rfl) (at_rq hv) ?_;conv=>whnf
  conv=>whnf
  refine .mk (i) ((can v).D) (rfl) (at_rq hv) ?_;conv=>whnf
  conv=>whnf
  refine .c (lx_rats1) ?_;conv=>whnf
  exact⟨i+1,Wk.go,hi',by omega⟩
 ·conv=>whnf
  exact .q ⟨rfl,rfl⟩
theorem lx_mrats {l:List Rat}(hl:l.length≤1000000):LV Tryz.prog 195 [.a (.d (rqsD l)),.a (.d (rqsD l))] (vl (.bool true)):=by
 refine LX_run (m:=0) (n0:=0) mix Tryz.func195 rfl rfl rfl rfl ?_;conv=>whnf
 refine .c (lx_eqf hl) ?_;conv=>whnf
 exact .q ⟨rfl,rfl⟩
theorem lx_msame {l:Ly}(hw:l.ws.length≤1000000)(hb:l.bs.length≤1000000):LV Tryz.prog 156 [.agg l.A,.agg l.A] (vl (.bool true)):=by
 refine LX_run (m:=0) (n0:=0) mix Tryz.func156 rfl rfl rfl rfl ?_;conv=>whnf
 refine bT (by simp) ?_;conv=>whnf
 refine bT (by simp) ?_;conv=>whnf
 refine bT (by simp) ?_;conv=>whnf
 refine bT (by simp) ?_;conv=>whnf
 refine bT (by simp) ?_;conv=>whnf
 refine bT (by simp) ?_;conv=>whnf
 refine bT (by simp) ?_;conv=>whnf
 refine .c (lx_mrats hw) ?_;conv=>whnf
 refine .c (lx_mrats hb) ?_;conv=>whnf
 exact .q ⟨rfl,rfl⟩
theorem lx_monly {l:Ly}(hw:l.ws.length≤1000000)(hb:l.bs.length≤1000000):LV Tryz.prog 155 [.agg l.A,.agg ({l with kind:=0}:Ly).A] (vl (.bool true)):=by
 refine LX_run (m:=0) (n0:=0) mix Tryz.func155 rfl rfl rfl rfl ?_;conv=>whnf
 refine .c (lx_msame (l:=l) hw hb) ?_;conv=>whnf
 exact .q ⟨rfl,rfl⟩
theorem lx_mside {n:Int}(h:1≤n)(h':n≤64):LV Tryz.prog 196 [vl (.int .i64 n)] (vl (.bool true)):=by
 refine LX_run (m:=0) (n0:=0) mix Tryz.func196 rfl rfl rfl rfl ?_;conv=>whnf
 refine bT (decide_eq_true (by omega)) ?_;conv=>whnf
 refine bT (decide_eq_true (by omega)) ?_;conv=>whnf
 exact .q ⟨rfl,rfl⟩
theorem lx_kernel {l:Ly}(h1:1≤l.kh∧l.kh≤64)(h2:1≤l.kw∧l.kw≤64)(h3:1≤l.st∧l.st≤64):LV Tryz.prog 158 [.agg l.A] (vl (.bool true)):=by
 refine LX_run (m:=0) (n0:=0) mix Tryz.func158 rfl rfl rfl rfl ?_;conv=>whnf
 refine .c (lx_mside h1.1 h1.2) ?_;conv=>whnf
 refine .c (lx_mside h2.1 h2.2) ?_;conv=>whnf
 refine .c (lx_mside h3.1 h3.2) ?_;conv=>whnf
 exact .q ⟨rfl,rfl⟩
theorem lx_mout {l:Ly}(h:1≤l.out∧l.out≤16384):LV Tryz.prog 154 [.agg l.A] (vl (.bool true)):=by
 refine LX_run (m:=0) (n0:=0) mix Tryz.func154 rfl rfl rfl rfl ?_;conv=>whnf
 refine bT (decide_eq_true h.1) ?_;conv=>whnf
 refine bT (decide_eq_true h.2) ?_;conv=>whnf
 exact .q ⟨rfl,rfl⟩
theorem lx_weights {l:Ly}{m:Nat}(h1:(l.bs.length:Int)=l.out)(h2:1≤l.ws.length)(h3:l.ws.length≤16384)(h4:l.ws.length % m=0)(h5:1≤m):LV Tryz.prog 161 [.agg l.A,vl (.int .i64 (m:Nat))] (vl (.bool true)):=by
 refine LX_run (m:=0) (n0:=0) mix Tryz.func161 rfl rfl rfl rfl ?_;conv=>whnf
 refine bT (by simp[h1]) ?_;conv=>whnf
 refine bT (decide_eq_true (by rw[List.length_map];omega)) ?_;conv=>whnf
 refine bT (decide_eq_true (by rw[List.length_map];omega)) ?_;conv=>whnf
 refine .mk 0 ⟨by omega,rfl⟩ (by rw[List.length_map,Int.tmod_eq_emod_of_nonneg (by omega),←Int.natCast_emod,h4];rfl) ?_;conv=>whnf
 exact .q ⟨rfl,rfl⟩
abbrev F1:A:= .elt [D.lit (.func (.func 154) #[] #[])] 0
abbrev F2:A:= .elt [D.lit (.func (.func 155) #[] #[])] 0
def LayV (i:Nat):Lay→Prop
 | .dense ws bs=>(1≤bs.length∧bs.length≤16384)∧(1≤ws.length∧ws.length≤16384)∧ws.length % bs.length=0
 | .conv kh kw st pad ws bs=>(1≤bs.length∧bs.length≤16384)∧(1≤ws.length∧ws.length≤16384)∧ws.length % (bs.length*kh*kw)=0∧(1≤kh∧kh≤64)∧(1≤kw∧kw≤64)∧(1≤st∧st≤64)∧pad<kh∧pad<kw
 | .mx kh kw st=>(1≤kh∧kh≤64)∧(1≤kw∧kw≤64)∧(1≤st∧st≤64)
 | .av kh kw st=>(1≤kh∧kh≤64)∧(1≤kw∧kw≤64)∧(1≤st∧st≤64)
 | .relu=>True
 | .flat=>True
 | .add fr=> -1≤fr∧fr<i
theorem lx_cond5 {ws bs:List Rat}{i:Nat}(h:LayV i (.dense ws bs)):LV Tryz.prog 160 [.agg (Lay.ly (.dense ws bs)).A,vl (.int .i64 (i:Nat)),.a F1,.a F2] (vl (.bool true)):=by
 obtain⟨h1,h2,h3⟩:=h;refine LX_run (m:=0) (n0:=0) mix Tryz.func160 rfl rfl rfl rfl ?_;conv=>whnf
 refine .c (lx_mout (l:=Lay.ly (.dense ws bs)) (by simp only[Lay.ly];omega)) ?_;conv=>whnf
 refine .c (lx_weights (l:=Lay.ly (.dense ws bs)) (m:=bs.length) rfl h2.1 h2.2 h3 h1.1) ?_;conv=>whnf
 refine .c (lx_monly (l:=Lay.ly (.dense ws bs)) (by simp only[Lay.ly];omega) (by simp only[Lay.ly];omega)) ?_;conv=>whnf
 exact .q ⟨rfl,rfl⟩
theorem lx_cond6 {kh kw st pad:Nat}{ws bs:List Rat}{i:Nat}(h:LayV i (.conv kh kw st pad ws bs)):LV Tryz.prog 162 [.agg (Lay.ly (.conv kh kw st pad ws bs)).A,vl (.int .i64 (i:Nat)),.a F1,.a F2] (vl (.bool true)):=by
 obtain⟨h1,h2,h3,h4,h5,h6,h7,h8⟩:=h;have m1:bs.length*kh≤16384*64:=Nat.mul_le_mul h1.2 h4.2;have m2:bs.length*kh*kw≤16384*64*64:=Nat.mul_le_mul m1 h5.2;have e1:IntKind.i64.wrap ((bs.length:Int)*(kh:Int))=((bs.length*kh:Nat):Int):=by rw[←Int.natCast_mul,wrN (by omega)]
 have e2:IntKind.i64.wrap (((bs.length*kh:Nat):Int)*(kw:Int))=((bs.length*kh*kw:Nat):Int):=by rw[←Int.natCast_mul,wrN (by omega)]
 refine LX_run (m:=0) (n0:=0) mix Tryz.func162 rfl rfl rfl rfl ?_;conv=>whnf
 refine .c (lx_mout (l:=Lay.ly (.conv kh kw st pad ws bs)) (by simp only[Lay.ly];omega)) ?_;conv=>whnf
 refine .c (lx_kernel (l:=Lay.ly (.conv kh kw st pad ws bs)) (by simp only[Lay.ly];omega) (by simp only[Lay.ly];omega) (by simp only[Lay.ly];omega)) ?_;conv=>whnf
 refine bT (decide_eq_true (show(pad:Int)<(kh:Int) by omega)) ?_;conv=>whnf
 refine bT (decide_eq_true (show(pad:Int)<(kw:Int) by omega)) ?_;conv=>whnf
 have e3:IntKind.i64.wrap (IntKind.i64.wrap ((Lay.ly (.conv kh kw st pad ws bs)).out*(Lay.ly (.conv kh kw st pad ws bs)).kh)*(Lay.ly (.conv kh kw st pad ws bs)).kw)=((bs.length*kh*kw:Nat):Int):=by
  show IntKind.i64.wrap (IntKind.i64.wrap ((bs.length:Int)*(kh:Int))*(kw:Int))=_;rw[e1,e2]
 rw[e3];refine .c (lx_weights (l:=Lay.ly (.conv kh kw st pad ws bs)) (m:=bs.length*kh*kw) rfl h2.1 h2.2 h3 (Nat.mul_pos (Nat.mul_pos h1.1 h4.1) h5.1)) ?_;conv=>whnf
 refine .c (lx_monly (l:=Lay.ly (.conv kh kw st pad ws bs)) (by simp only[Lay.ly];omega) (by simp only[Lay.ly];omega)) ?_;conv=>whnf
 exact .q ⟨rfl,rfl⟩
theorem lx_cond3 {l:Ly}{i:Nat}(hk:l=⟨l.kind,0,0,l.kh,l.kw,l.st,0,[],[]⟩)(h1:1≤l.kh∧l.kh≤64)(h2:1≤l.kw∧l.kw≤64)(h3:1≤l.st∧l.st≤64):LV Tryz.prog 157 [.agg l.A,vl (.int .i64 (i:Nat)),.a F2] (vl (.bool true)):=by
 rw[hk];refine LX_run (m:=0) (n0:=0) mix Tryz.func157 rfl rfl rfl rfl ?_;conv=>whnf
 refine .c (lx_kernel (l:=⟨l.kind,0,0,l.kh,l.kw,l.st,0,[],[]⟩) h1 h2 h3) ?_;conv=>whnf
 refine .c (lx_monly (l:=⟨l.kind,0,0,l.kh,l.kw,l.st,0,[],[]⟩) (by simp) (by simp)) ?_;conv=>whnf
 exact .q ⟨rfl,rfl⟩
theorem lx_cond4 {k:Int}{i:Nat}:LV Tryz.prog 159 [.agg (Ly.A ⟨k,0,0,0,0,0,0,[],[]⟩),vl (.int .i64 (i:Nat)),.a F2] (vl (.bool true)):=by
 refine LX_run (m:=0) (n0:=0) mix Tryz.func159 rfl rfl rfl rfl ?_;conv=>whnf
 refine .c (lx_monly (l:=⟨k,0,0,0,0,0,0,[],[]⟩) (by simp) (by simp)) ?_;conv=>whnf
 exact .q ⟨rfl,rfl⟩
theorem lx_cond7 {fr:Int}{i:Nat}(h:LayV i (.add fr)):LV Tryz.prog 163 [.agg (Lay.ly (.add fr)).A,vl (.int .i64 (i:Nat)),.a F2] (vl (.bool true)):=by
 refine LX_run (m:=0) (n0:=0) mix Tryz.func163 rfl rfl rfl rfl ?_;conv=>whnf
 refine bT (decide_eq_true h.1) ?_;conv=>whnf
 refine bT (decide_eq_true h.2) ?_;conv=>whnf
 refine .c (lx_monly (l:=Lay.ly (.add fr)) (by simp[Lay.ly]) (by simp[Lay.ly])) ?_;conv=>whnf
 exact .q ⟨rfl,rfl⟩
end Go.Proofs.YtbegidaaiajffaaGreatDoor.Lf
namespace Go.Proofs.YtbegidaaiajffaaGreatDoor
open Go.RowKit Nt
theorem run_ins {P:Program}(W:World)(es:Array MapEntry)(c:Nat)(t kt et r:Nat)(k:Int)(val:Value)(hr:r=W.heap.size)(hm:P.underlying t=some (.map kt et))(hk:P.underlying kt=some (.int .i64))(hf:Instr.findNow (.int .i64) (.int .i64 k) es.toList 0=some none):
  (Instr.mapUpdate t (.map (some r)) (.int .i64 k) val).run P (W.alloc (.map es c))= .ok () (W.alloc (.map (es.push {key:= .int .i64 k,val:=val,born:=c}) (c+1))):=by
 subst hr;have hb:(W.alloc (.map es c)).heap[W.heap.size]? =some (.map es c):=(MapKept.heap_alloc W _).1;have hc:(Instr.checkKey false 10000 kt (.int .i64 k)).run P (W.alloc (.map es c))= .ok () (W.alloc (.map es c)):=MapKept.run_checkKey (k:= .int .i64 k) hk (by simp[MapKept.IsKey]) false 9999;simp[Instr.mapUpdate,run_underlying hm,MapKept.run_getObj_map hb,hc,MapKept.run_findKey hk hf,MapKept.run_setObj_map _ hb,Result.andThen];have e:∀o:Obj,W.alloc o={W with heap:=W.heap.push o}:=fun _=>rfl;rw[e,e]
 congr 1
 show(W.heap.push _).setIfInBounds _ _=W.heap.push _;apply Array.ext';simp
theorem run_ins' (W:World)(es:Array MapEntry)(c:Nat)(r:Nat)(k:Int)(val:Value)(hr:r=W.heap.size)(hf:Instr.findNow (.int .i64) (.int .i64 k) es.toList 0=some none):
  (Instr.mapUpdate 154 (.map (some r)) (.int .i64 k) val).run Tryz.prog (W.alloc (.map es c))= .ok () (W.alloc (.map (es.push {key:= .int .i64 k,val:=val,born:=c}) (c+1))):=
 run_ins W es c _ _ _ r k val hr Tryz.underlying154 Tryz.underlying3 hf
section
attribute [local go_sem] run_makeMap_plain
def condEs (b1 b2:Addr):Array MapEntry:= #[⟨.int .i64 1,.func (.func 160) #[] #[.pointer (some b1),.pointer (some b2)],0⟩,⟨.int .i64 2,.func (.func 162) #[] #[.pointer (some b1),.pointer (some b2)],1⟩,⟨.int .i64 3,.func (.func 157) #[] #[.pointer (some b2)],2⟩,⟨.int .i64 4,.func (.func 157) #[] #[.pointer (some b2)],3⟩,⟨.int .i64 5,.func (.func 159) #[] #[.pointer (some b2)],4⟩,⟨.int .i64 6,.func (.func 159) #[] #[.pointer (some b2)],5⟩,⟨.int .i64 7,.func (.func 163) #[] #[.pointer (some b2)],6⟩]
theorem cond_any (w:World):Calls Tryz.prog 110 #[] w fun e w'=>e= .returned (.map (some (w.heap.size+2)))∧w'=((w.alloc (.cells #[.func (.func 154) #[] #[]] 204)).alloc (.cells #[.func (.func 155) #[] #[]] 205)).alloc (.map (condEs ⟨w.heap.size,0,none⟩ ⟨w.heap.size+1,0,none⟩) 7):=by
 go_enter Tryz.func110,Tryz.ntmps110
 go_wp2
 (rw[run_ins' _ _ _ _ _ _ (by simp) (by simp[Instr.findNow,Instr.sameNow])];go_wp2)
 (rw[run_ins' _ _ _ _ _ _ (by simp) (by simp[Instr.findNow,Instr.sameNow])];go_wp2)
 (rw[run_ins' _ _ _ _ _ _ (by simp) (by simp[Instr.findNow,Instr.sameNow])];go_wp2)
 (rw[run_ins' _ _ _ _ _ _ (by simp) (by simp[Instr.findNow,Instr.sameNow])];go_wp2)
 (rw[run_ins' _ _ _ _ _ _ (by simp) (by simp[Instr.findNow,Instr.sameNow])];go_wp2)
 (rw[run_ins' _ _ _ _ _ _ (by simp) (by simp[Instr.findNow,Instr.sameNow])];go_wp2)
 (rw[run_ins' _ _ _ _ _ _ (by simp) (by simp[Instr.findNow,Instr.sameNow])];go_wp2)
 exact bodyPost_ret (results_tmp rfl _ _ _) rfl ⟨rfl,rfl⟩
end
theorem cond_look (w:World){es:Array MapEntry}{c b:Nat}{k:Int}{i:Nat}{v:Value}(hb:w.heap[b]? =some (.map es c))(hf:Instr.findNow (.int .i64) (.int .i64 k) es.toList 0=some (some (i,v))):
  (Instr.lookup 154 (.map (some b)) (.int .i64 k) true).run Tryz.prog w= .ok (.tuple #[v,.bool true]) w:=by
 have hm:=Tryz.underlying154;have hk:=Tryz.underlying3;have hc:=MapKept.run_checkKey (w:=w) (k:= .int .i64 k) hk (by simp[MapKept.IsKey]) es.isEmpty 9999;simp[Instr.lookup,run_underlying hm,MapKept.run_getObj_map hb,hc,MapKept.run_findKey hk hf,Result.andThen]
end Go.Proofs.YtbegidaaiajffaaGreatDoor
namespace Go.Proofs.YtbegidaaiajffaaGreatDoor.Lf
open Go.RowKit Nt Go.Proofs.YtbegidaaiajffaaGreatDoor
abbrev fF1:Value:= .func (.func 154) #[] #[]
abbrev fF2:Value:= .func (.func 155) #[] #[]
def condM:MPred:=⟨fun M w o=>∃b1 b2,o= .map (condEs ⟨b1,0,none⟩ ⟨b2,0,none⟩) 7∧Fx M w b1 0 fF1∧Fx M w b2 0 fF2,fun M M' w w' o h ⟨b1,b2,e,h1,h2⟩=>⟨b1,b2,e,h _ _ _ h1,h _ _ _ h2⟩⟩
theorem lx_conditions:LX Tryz.prog 110 [] [] fun v H=>v= .a (.mp 0)∧H=[(0,.mp condM)]:=by
 refine⟨_,_,⟨rfl,rfl⟩,fun γ M w rs hr ha=> ?_⟩
 match rs,ha with
 |[],_=>
 refine cM (cond_any w) ?_;rintro e w' ⟨rfl,rfl⟩;obtain⟨W,hW⟩:∃W,W=((w.alloc (.cells #[fF1] 204)).alloc (.cells #[fF2] 205)).alloc (.map (condEs ⟨w.heap.size,0,none⟩ ⟨w.heap.size+1,0,none⟩) 7):=⟨_,rfl⟩;have hsz:W.heap.size=w.heap.size+3:=by rw[hW];simp
 have hold:∀b,b<w.heap.size→W.heap[b]? =w.heap[b]?:=fun b hb=>by
  rw[hW,Below.heap_alloc _ _ _ (by simp;omega),Below.heap_alloc _ _ _ (by simp;omega),Below.heap_alloc _ _ _ hb]
 have h2:W.heap[w.heap.size+2]? =some (.map (condEs ⟨w.heap.size,0,none⟩ ⟨w.heap.size+1,0,none⟩) 7):=by
  have e:w.heap.size+2=((w.alloc (.cells #[fF1] 204)).alloc (.cells #[fF2] 205)).heap.size:=by simp
  rw[hW,e];exact(MapKept.heap_alloc ((w.alloc (.cells #[fF1] 204)).alloc (.cells #[fF2] 205)) _).1
 have h1:W.heap[w.heap.size+1]? =some (.cells #[fF2] 205):=by
  have e:w.heap.size+1=(w.alloc (.cells #[fF1] 204)).heap.size:=by simp
  rw[hW,Below.heap_alloc _ _ _ (by simp),e];exact(MapKept.heap_alloc (w.alloc (.cells #[fF1] 204)) _).1
 have h0:W.heap[w.heap.size]? =some (.cells #[fF1] 204):=by
  rw[hW,Below.heap_alloc _ _ _ (by simp;omega),Below.heap_alloc _ _ _ (by simp)];exact(MapKept.heap_alloc w _).1
 have os:W.os=w.os∧W.tape=w.tape∧W.output=w.output:=by rw[hW];exact⟨rfl,rfl,rfl⟩
 rw[←hW];clear hW;have hl:∀key e,look [(0,Ent.mp condM)] key=some e→key=0∧e= .mp condM:=by
  intro key e he;unfold look at he;split at he
  ·injection he with he;exact⟨by omega,he.symm⟩
  ·cases he
 have hO:∀key b i,Owns (fun _=>Value.map (some (w.heap.size+2))) (look [(0,Ent.mp condM)]) key b i→b=w.heap.size+2:=by
  intro key b i ho;obtain⟨_,k2⟩:=owns_live ho;simp[blk]at k2;omega
 have s:Stp γ (look []) M w (fun _=> .map (some (w.heap.size+2))) (look [(0,Ent.mp condM)]) (fun b i=>M b i∨b=w.heap.size+2) W:=by
  refine⟨os.1,os.2.1,os.2.2,by omega,fun b i u k=> ?_,fun b hb _=>hold b hb,fun b i k _=> .inl k,fun key b i ho hb=> ?_,fun key e' he=> ?_⟩
  ·have hlt:b<w.heap.size:=World.block_lt_of_cell? _ _ k.2;exact⟨fun k2=>k2.elim k.1 fun k3=>by omega,by rw[←k.2];exact World.cell?_of_block (a:=⟨b,i,none⟩) (hold b hlt)⟩
  ·have:=hO key b i ho;omega
  ·cases he
 have fx0:Fx (fun b i=>M b i∨b=w.heap.size+2) W w.heap.size 0 fF1:=by
  refine⟨fun k=>k.elim (fun k=> ?_) (fun k=>by omega),?_⟩
  ·have:=hr.dom _ _ k;omega
  ·simp[World.cell?,h0]
 have fx1:Fx (fun b i=>M b i∨b=w.heap.size+2) W (w.heap.size+1) 0 fF2:=by
  refine⟨fun k=>k.elim (fun k=> ?_) (fun k=>by omega),?_⟩
  ·have:=hr.dom _ _ k;omega
  ·simp[World.cell?,h1]
 refine⟨_,_,_,rfl,⟨fun key e he=> ?_,fun key b i ho=> .inr (hO key b i ho),fun key key' b l1 l2 _ _=> ?_,fun b i z k=> ?_,fun b i k=> ?_,hr.glb.fx s.fx⟩,⟨rfl,_,rfl,rfl⟩,s⟩
 ·obtain⟨rfl,rfl⟩:=hl key e he;exact⟨_,_,rfl,h2,⟨_,_,rfl,fx0,fx1⟩,_,_,rfl⟩
 ·cases he:look [(0,Ent.mp condM)] key with
  |none=>rw[he]at l1;cases l1
  |some e=>
   cases he':look [(0,Ent.mp condM)] key' with
   |none=>rw[he']at l2;cases l2
   |some e'=>rw[(hl _ _ he).1,(hl _ _ he').1]
 ·rcases k with k|rfl
  ·rw[World.cell?_of_block (w:=w) (a:=⟨b,i,none⟩) (hold b (hr.dom b i k))];exact hr.u32 b i z k
  ·intro h5;simp only[World.cell?]at h5;rw[h2]at h5;cases h5
 ·rcases k with k|rfl
  ·have:=hr.dom b i k;omega
  ·omega
abbrev E1:BA:= .e [D.lit fF1] 0
abbrev E2:BA:= .e [D.lit fF2] 0
theorem rd_E {γ:Gh}{h:Hp}{M:MS}{w:World}{b:Nat}{f:Value}(hf:Fx M w b 0 f):RdB γ h M w (.e [D.lit f] 0) (.pointer (some ⟨b,0,none⟩)):=by
 refine⟨b,0,fun _=>f,rfl,fun j d hj=> ?_⟩
 match j,hj with
 |0,hj=>injection hj with hj;subst hj;exact⟨hf,.lit _⟩
 |j+1,hj=>cases hj
theorem any_two {F:FuncId}{k:Int}{i:Nat}(hf:∀b1 b2:Addr,Instr.findNow (.int .i64) (.int .i64 k) (condEs b1 b2).toList 0=some (some (i,.func (.func F) #[] #[.pointer (some b1),.pointer (some b2)]))):
  LkAny Tryz.prog 154 condM (.int .i64 k) (.fn (.func F) [] [E1,E2]):=by
 rintro γ h M w b o hb ⟨b1,b2,rfl,f1,f2⟩;exact⟨_,cond_look w hb (hf _ _),⟨[],[_,_],rfl,trivial,rd_E f1,rd_E f2,trivial⟩⟩
theorem any_one {F:FuncId}{k:Int}{i:Nat}(hf:∀b1 b2:Addr,Instr.findNow (.int .i64) (.int .i64 k) (condEs b1 b2).toList 0=some (some (i,.func (.func F) #[] #[.pointer (some b2)]))):
  LkAny Tryz.prog 154 condM (.int .i64 k) (.fn (.func F) [] [E2]):=by
 rintro γ h M w b o hb ⟨b1,b2,rfl,f1,f2⟩;exact⟨_,cond_look w hb (hf _ _),⟨[],[_],rfl,trivial,rd_E f2,trivial⟩⟩
theorem any1:LkAny Tryz.prog 154 condM (.int .i64 1) (.fn (.func 160) [] [E1,E2]):=any_two (i:=0) fun _ _=>rfl
theorem any2:LkAny Tryz.prog 154 condM (.int .i64 2) (.fn (.func 162) [] [E1,E2]):=any_two (i:=1) fun _ _=>rfl
theorem any3:LkAny Tryz.prog 154 condM (.int .i64 3) (.fn (.func 157) [] [E2]):=any_one (i:=2) fun _ _=>rfl
theorem any4:LkAny Tryz.prog 154 condM (.int .i64 4) (.fn (.func 157) [] [E2]):=any_one (i:=3) fun _ _=>rfl
theorem any5:LkAny Tryz.prog 154 condM (.int .i64 5) (.fn (.func 159) [] [E2]):=any_one (i:=4) fun _ _=>rfl
theorem any6:LkAny Tryz.prog 154 condM (.int .i64 6) (.fn (.func 159) [] [E2]):=any_one (i:=5) fun _ _=>rfl
theorem any7:LkAny Tryz.prog 154 condM (.int .i64 7) (.fn (.func 163) [] [E2]):=any_one (i:=6) fun _ _=>rfl
end Go.Proofs.YtbegidaaiajffaaGreatDoor.Lf
namespace Go.Proofs.YtbegidaaiajffaaGreatDoor.Lf
open Go.RowKit Nt
abbrev lyR (l:List Lay):List (List D):=l.map fun x=>(Lay.ly x).D
abbrev lysD (l:List Lay):D:= .sl 9 (lyR l)
abbrev Mo.A (m:Mo):List A:=[.d (shD m.inp),.d (lysD m.ls)]
structure MoV (m:Mo):Prop where
 inp:ShG m.inp
 n:m.ls.length≤64
 lay:∀i l,m.ls[i]? =some l→LayV i l
 par:∀l∈m.ls,∀q∈parS l,Sz q
theorem at_ly {l:List Lay}{i:Nat}{x:Lay}(h:l[i]? =some x):(lyR l)[i]? =some (Lay.ly x).D:=at_map (f:=fun x=>(Lay.ly x).D) h
theorem lay_call {i:Nat}{x:Lay}(h:LayV i x):∃F,entT Tryz.prog F=true∧
  ((LkAny Tryz.prog 154 condM (.int .i64 (Lay.ly x).kind) (.fn (.func F) [] [E1,E2])∧LV Tryz.prog F [.agg (Lay.ly x).A,vl (.int .i64 (i:Nat)),.a F1,.a F2] (vl (.bool true)))∨
  (LkAny Tryz.prog 154 condM (.int .i64 (Lay.ly x).kind) (.fn (.func F) [] [E2])∧LV Tryz.prog F [.agg (Lay.ly x).A,vl (.int .i64 (i:Nat)),.a F2] (vl (.bool true)))):=by
 rcases x with⟨ws,bs⟩|⟨kh,kw,st,pad,ws,bs⟩|⟨kh,kw,st⟩|⟨kh,kw,st⟩|_|_|fr
 ·exact⟨_,rfl,.inl ⟨any1,lx_cond5 h⟩⟩
 ·exact⟨_,rfl,.inl ⟨any2,lx_cond6 h⟩⟩
 ·have h1:=h.1;have h2:=h.2.1;have h3:=h.2.2;exact⟨_,rfl,.inr ⟨any3,lx_cond3 (l:=Lay.ly (.mx kh kw st)) rfl (by simp only[Lay.ly];omega) (by simp only[Lay.ly];omega) (by simp only[Lay.ly];omega)⟩⟩
 ·have h1:=h.1;have h2:=h.2.1;have h3:=h.2.2;exact⟨_,rfl,.inr ⟨any4,lx_cond3 (l:=Lay.ly (.av kh kw st)) rfl (by simp only[Lay.ly];omega) (by simp only[Lay.ly];omega) (by simp only[Lay.ly];omega)⟩⟩
 ·exact⟨_,rfl,.inr ⟨any5,lx_cond4⟩⟩
 ·exact⟨_,rfl,.inr ⟨any6,lx_cond4⟩⟩
 ·exact⟨_,rfl,.inr ⟨any7,lx_cond7 h⟩⟩
theorem lay_len {i:Nat}{x:Lay}(h:LayV i x):∀y∈[(Lay.ly x).ws,(Lay.ly x).bs],y.length≤16384:=by
 intro y hy;simp only[List.mem_cons,List.not_mem_nil,or_false]at hy
 cases x with
 |dense ws bs=>
  obtain⟨h1,h2,_⟩:=h;simp only[Lay.ly]at hy;rcases hy with rfl|rfl<;>omega
 |conv kh kw st pad ws bs=>
  obtain⟨h1,h2,_⟩:=h;simp only[Lay.ly]at hy;rcases hy with rfl|rfl<;>omega
 |_=>simp only[Lay.ly]at hy;rcases hy with rfl|rfl<;>simp
theorem lx_mvalid {m:Mo}(h:MoV m):LV Tryz.prog 57 [.agg m.A] (vl (.bool true)):=by
 have h2:=h.n;refine LX_run (m:=0) (n0:=0) mix Tryz.func57 rfl rfl rfl rfl ?_;conv=>whnf
 refine .c (lx_tvalid h.inp) ?_;conv=>whnf
 refine bF (decide_eq_false (by simp;omega)) ?_;conv=>whnf
 refine .l [] (lx_conditions) ?_;conv=>whnf
 refine .mk Nat (fun i=>⟨[(26,vl (.int .i64 (i:Nat))),(25,vl (.int .i64 (lyR m.ls).length)),(24,.a (.d (lysD m.ls))),(3,.a (.mp 1)),(2,vl (.bool false))],[(0,.box 25 m.A),(1,.mp condM)],2⟩) (fun i=>i≤m.ls.length) (fun i=>m.ls.length-i) 0 Wk.go (zL_ _) fun i hi=> ?_;conv=>whnf
 refine bs (fun g0=> ?_) (fun g0=> ?_)
 ·conv=>whnf
  have hi':i<m.ls.length:=by simpa using g0
  obtain⟨x,hx⟩:=at_some hi';have hlv:=h.lay i x hx;have hpar:=h.par x (mG_ hx);refine .mk (i) ((Lay.ly x).D) (rfl) (at_ly hx) ?_;conv=>whnf
  have hws:∀y∈[(Lay.ly x).ws,(Lay.ly x).bs],∀q∈y,Sz q:=by
   intro y hy q hq;simp only[List.mem_cons,List.not_mem_nil,or_false]at hy
   cases x<;>simp only[Lay.ly,parS]at hy hpar<;>rcases hy with rfl|rfl<;>first|exact absurd hq List.not_mem_nil|exact hpar q (List.mem_append_left _ hq)|exact hpar q (List.mem_append_right _ hq)
  obtain⟨F,hF,⟨c1,c2⟩|⟨c1,c2⟩⟩:=lay_call hlv
  all_goals
   refine .any _ c1 ?_;conv=>whnf
   refine Cn.c c2 ?_ hF;conv=>whnf
   refine .mk Nat (fun j=>⟨[(53,vl (.int .i64 (j:Nat))),(52,vl (.int .i64 2)),(51,.a (.own 3 1 (trR [(Lay.ly x).ws,(Lay.ly x).bs]))),(26,vl (.int .i64 (i:Nat))),(25,vl (.int .i64 (lyR m.ls).length)),(24,.a (.d (lysD m.ls))),(3,.a (.mp 1)),(2,vl (.bool false))],[(0,.box 25 m.A),(1,.mp condM),(3,.arr 29 1 2)],4⟩) (fun j=>j≤2) (fun j=>2-j) 0 Wk.go (zL_ _) fun j hj=> ?_;conv=>whnf
   refine bs (fun g1=> ?_) (fun g1=> ?_)
   ·conv=>whnf
    have hj':j<2:=by have:=of_decide_eq_true g1;omega
    obtain⟨y,hy⟩:=at_some (l:=[_,_]) (i:=j) hj';have hyz:=hws y (mG_ hy);have hyl:=lay_len hlv y (mG_ hy);refine .mk (j) ([rqsD y]) (rfl) (at_map hy) ?_;conv=>whnf
    refine .mk Nat (fun k=>⟨[(59,vl (.int .i64 (k:Nat))),(58,vl (.int .i64 (rqR y).length)),(57,.a (.d (rqsD y))),(53,vl (.int .i64 (j:Nat))),(52,vl (.int .i64 2)),(51,.a (.own 3 1 (trR [(Lay.ly x).ws,(Lay.ly x).bs]))),(26,vl (.int .i64 (i:Nat))),(25,vl (.int .i64 (lyR m.ls).length)),(24,.a (.d (lysD m.ls))),(3,.a (.mp 1)),(2,vl (.bool false))],[(0,.box 25 m.A),(1,.mp condM),(3,.arr 29 1 2)],4⟩) (fun k=>k≤y.length) (fun k=>y.length-k) 0 Wk.go (zL_ _) fun k hk=> ?_;conv=>whnf
    refine bs (fun g2=> ?_) (fun g2=> ?_)
    ·conv=>whnf
     have hk':k<y.length:=by simpa using g2
     obtain⟨q,hq⟩:=at_some hk';refine .mk (k) ((can q).D) (rfl) (at_rq hq) ?_;conv=>whnf
     conv=>whnf
     refine .c (lx_okc (hyz q (mG_ hq))) ?_;conv=>whnf
     exact⟨k+1,Wk.go,hk',by omega⟩
    ·conv=>whnf
     exact⟨j+1,Wk.go,by omega,by omega⟩
   ·conv=>whnf
    exact⟨i+1,Wk.go,hi',by omega⟩
 ·conv=>whnf
  exact .q ⟨rfl,rfl⟩
abbrev ssR (ss:List (List Nat)):List (List D):=ss.map fun s=>[shD s]
abbrev ssD (ss:List (List Nat)):D:= .sl 1 (ssR ss)
abbrev plA (inp:List Nat)(ss:List (List Nat)):List A:=[.d (shD inp),.d (ssD ss)]
def inS (inp:List Nat)(ss:List (List Nat)):List Nat:=(inp::ss).getD ss.length []
theorem at_ss {ss:List (List Nat)}{i:Nat}{s:List Nat}(h:ss[i]? =some s):(ssR ss)[i]? =some [shD s]:=at_map (f:=fun s=>[shD s]) h
theorem ShOk.g {s:List Nat}(h:ShOk s):ShG s:=⟨h.l1,h.l4,h.pos,by have:=h.sz;omega⟩
theorem lx_pin {inp:List Nat}{ss:List (List Nat)}(hl:ss.length≤1000):LV Tryz.prog 169 [.agg (plA inp ss)] (.a (.d (shD (inS inp ss)))):=by
 refine LX_run (m:=0) (n0:=0) mix Tryz.func169 rfl rfl rfl rfl ?_;conv=>whnf
 refine bs (fun g0=> ?_) (fun g0=> ?_)
 ·conv=>whnf
  have h0:0<ss.length:=by simpa using g0
  obtain⟨s,hs⟩:=at_some (l:=ss) (i:=ss.length-1) (by omega);have e:inS inp ss=s:=by
   unfold inS;obtain⟨n,hn⟩:∃n,ss.length=n+1:=⟨ss.length-1,by omega⟩;rw[hn,List.getD_cons_succ];rw[hn]at hs;exact getD_of hs
  refine .mk (ss.length-1) ([shD s]) (by rw[List.length_map,show((ss.length:Int)-1)=((ss.length-1:Nat):Int) by omega,wrN (by omega)]) (at_ss hs) ?_;conv=>whnf
  conv=>whnf
  rw[←e];exact .q ⟨rfl,rfl⟩
 ·conv=>whnf
  have h0:ss.length=0:=by simpa using g0
  have e:inS inp ss=inp:=by unfold inS;rw[h0];rfl
  exact .q ⟨by rw[e],rfl⟩
theorem lx_pdense {inp:List Nat}{ss:List (List Nat)}{l:Ly}(hl:ss.length≤1000)(hs:ShG (inS inp ss)){n:Nat}(h1:l.out=n)(hn:n≤16384)(h2:l.ws.length=n*szS (inS inp ss)):
  LV Tryz.prog 166 [.agg (plA inp ss),.agg l.A] (.tup [.s (.d (shD [n])),.s (.d (.lit (.bool true)))]):=by
 have h3:n*szS (inS inp ss)≤16384*16384:=Nat.mul_le_mul hn hs.sz;refine LX_run (m:=0) (n0:=0) mix Tryz.func166 rfl rfl rfl rfl ?_;conv=>whnf
 rw[h1];refine .c (lx_pin hl) ?_;conv=>whnf
 refine .c (lx_tsize hs) ?_;conv=>whnf
 refine bT (decide_eq_true (by rw[List.length_map,h2,←Int.natCast_mul,wrN (by omega)])) ?_;conv=>whnf
 refine .mk (by kernel_rfl) ?_;conv=>whnf
 exact .s ⟨rfl,rfl⟩
theorem lx_pwindows {inp:List Nat}{ss:List (List Nat)}{l:Ly}{kh kw st pad:Nat}{z:Int}(hl:ss.length≤1000)(h3:(inS inp ss).length=3)(ok:(winS (inS inp ss) kh kw st pad).Ok)(e1:l.kh=kh)(e2:l.kw=kw)(e3:l.st=st)(e4:l.pad=pad):
  LV Tryz.prog 168 [.agg (plA inp ss),.agg l.A,vl (.int .i64 z)] (.tup [.s (.d (inD [z,(winS (inS inp ss) kh kw st pad).rows,(winS (inS inp ss) kh kw st pad).cols])),.s (.d (.lit (.bool true)))]):=by
 have hc:=lx_windows ok;rw[←shD3 h3]at hc;refine LX_run (m:=0) (n0:=0) mix Tryz.func168 rfl rfl rfl rfl ?_;conv=>whnf
 rw[e1,e2,e3,e4];refine .c (lx_pin hl) ?_;conv=>whnf
 refine .c (hc) ?_;conv=>whnf
 refine .mk (by kernel_rfl) ?_;conv=>whnf
 exact .s ⟨rfl,rfl⟩
theorem lx_pconv {inp:List Nat}{ss:List (List Nat)}{l:Ly}{kh kw st pad n:Nat}(hl:ss.length≤1000)(hs:ShG (inS inp ss))(h3:(inS inp ss).length=3)(ok:(winS (inS inp ss) kh kw st pad).Ok)(e1:l.kh=kh)(e2:l.kw=kw)(e3:l.st=st)(e4:l.pad=pad)(e5:l.out=n)(hn:n≤16384)
  (h2:l.ws.length=n*((inS inp ss).getD 0 0*(kh*kw))):
  LV Tryz.prog 167 [.agg (plA inp ss),.agg l.A] (.tup [.s (.d (shD [n,(winS (inS inp ss) kh kw st pad).rows,(winS (inS inp ss) kh kw st pad).cols])),.s (.d (.lit (.bool true)))]):=by
 obtain⟨d,hd⟩:=at_some (l:=inS inp ss) (i:=0) (by omega);have e6:(inS inp ss).getD 0 0=d:=getD_of hd;have m1:=(hs.d hd).2;have hkh:=ok.kh.2;have hkw:=ok.kw.2;have n1:n*d≤16384*16384:=Nat.mul_le_mul hn m1;have n2:n*d*kh≤16384*16384*6:=Nat.mul_le_mul n1 hkh;have n3:n*d*kh*kw≤16384*16384*6*6:=Nat.mul_le_mul n2 hkw;have hw:=lx_pwindows (l:=l) (z:=l.out) hl h3 ok e1 e2 e3 e4;refine LX_run (m:=0) (n0:=0) mix Tryz.func167 rfl rfl rfl rfl ?_;conv=>whnf
 refine .c (hw) ?_;conv=>whnf
 refine .c (lx_pin hl) ?_;conv=>whnf
 refine .mk (0) ([D.lit (.int .i64 (d:Nat))]) (rfl) (at_nI hd) ?_;conv=>whnf
 conv=>whnf
 have ew:IntKind.i64.wrap (IntKind.i64.wrap (IntKind.i64.wrap (l.out*(d:Int))*l.kh)*l.kw)=((n*d*kh*kw:Nat):Int):=by
  rw[e5,e1,e2,←Int.natCast_mul,wrN (n:=n*d) (by omega),←Int.natCast_mul,wrN (n:=n*d*kh) (by omega),←Int.natCast_mul,wrN (by omega)]
 refine bT (decide_eq_true (by rw[ew,List.length_map,h2,e6];simp only[Nat.mul_assoc])) ?_;conv=>whnf
 refine .mk (by kernel_rfl) ?_;conv=>whnf
 exact .s ⟨by rw[e5];rfl,rfl⟩
theorem lx_seq {s:List Nat}(hl:s.length≤1000):LV Tryz.prog 197 [.a (.d (shD s)),.a (.d (shD s))] (vl (.bool true)):=by
 refine LX_run (m:=0) (n0:=0) mix Tryz.func197 rfl rfl rfl rfl ?_;conv=>whnf
 refine bF (by simp) ?_;conv=>whnf
 refine .mk Nat (fun i=>⟨[(13,vl (.int .i64 (i:Nat))),(12,vl (.int .i64 (inR (nI s)).length)),(11,.a (.d (shD s))),(1,.a (.d (shD s))),(0,.a (.d (shD s)))],[],0⟩) (fun i=>i≤s.length) (fun i=>s.length-i) 0 Wk.go (zL_ _) fun i hi=> ?_;conv=>whnf
 refine bs (fun g0=> ?_) (fun g0=> ?_)
 ·conv=>whnf
  have hi':i<s.length:=by simpa using g0
  obtain⟨d,hd⟩:=at_some hi';refine .mk (i) ([D.lit (.int .i64 (d:Nat))]) (rfl) (at_nI hd) ?_;conv=>whnf
  conv=>whnf
  refine .mk (i) ([D.lit (.int .i64 (d:Nat))]) (rfl) (at_nI hd) ?_;conv=>whnf
  conv=>whnf
  refine bF (by simp) ?_;conv=>whnf
  refine .mk (by kernel_rfl) ?_;conv=>whnf
  exact⟨i+1,Wk.go,hi',by omega⟩
 ·conv=>whnf
  exact .q ⟨rfl,rfl⟩
theorem lx_sclone {s:List Nat}(h0:1≤s.length)(hl:s.length≤1000):LV Tryz.prog 113 [.a (.d (shD s))] (.a (.d (shD s))):=by
 obtain⟨d,t,rfl⟩:∃d t,s=d::t:=by cases s with|nil=>simp at h0|cons d t=>exact⟨d,t,rfl⟩
 refine LX_run (m:=0) (n0:=0) mix Tryz.func113 rfl rfl rfl rfl ?_;conv=>whnf
 refine .own ?_;conv=>whnf
 refine .mk (inR (nI (d::t))) rfl rfl (by simp at hl ⊢;omega) ?_;conv=>whnf
 exact .s ⟨rfl,rfl⟩
theorem lx_padd {inp:List Nat}{ss:List (List Nat)}{l:Ly}(hl:ss.length≤1000)(hs:ShG (inS inp ss))(h1: -1≤l.fr)(h2:l.fr<ss.length)(h3:(inp::ss).getD (l.fr+1).toNat []=inS inp ss):
  LV Tryz.prog 170 [.agg (plA inp ss),.agg l.A] (.tup [.s (.d (shD (inS inp ss))),.s (.d (.lit (.bool true)))]):=by
 refine LX_run (m:=0) (n0:=0) mix Tryz.func170 rfl rfl rfl rfl ?_;conv=>whnf
 refine bs (fun g0=> ?_) (fun g0=> ?_)
 ·conv=>whnf
  have h0:0≤l.fr:=by simpa using g0
  obtain⟨s,hs'⟩:=at_some (l:=ss) (i:=l.fr.toNat) (by omega);have e:s=inS inp ss:=by
   rw[←h3,show(l.fr+1).toNat=l.fr.toNat+1 by omega,List.getD_cons_succ];exact(getD_of hs').symm
  refine .mk (l.fr.toNat) ([shD s]) (by rw[Int.toNat_of_nonneg h0]) (at_ss hs') ?_;conv=>whnf
  conv=>whnf
  rw[e];refine .c (lx_pin hl) ?_;conv=>whnf
  refine .c (lx_pin hl) ?_;conv=>whnf
  refine .c (lx_seq (by have:=hs.l4;omega)) ?_;conv=>whnf
  refine .mk (by kernel_rfl) ?_;conv=>whnf
  exact .q ⟨rfl,rfl⟩
 ·conv=>whnf
  have h0:¬0≤l.fr:=by simpa using g0
  have e:inS inp ss=inp:=by
   rw[←h3,show(l.fr+1).toNat=0 by omega];rfl
  refine .c (lx_pin hl) ?_;conv=>whnf
  refine .c (lx_pin hl) ?_;conv=>whnf
  rw[e];refine .c (lx_seq (by rw[←e];have:=hs.l4;omega)) ?_;conv=>whnf
  refine .mk (by kernel_rfl) ?_;conv=>whnf
  exact .q ⟨rfl,rfl⟩
theorem lx_pout {inp:List Nat}{ss:List (List Nat)}{lay:Lay}(hl:ss.length≤1000)(hs:ShOk (inS inp ss))(ho:ShOk (outS lay (inS inp ss)))(hf:Fit lay ss.length (inp::ss) (inS inp ss)):
  LV Tryz.prog 112 [.agg (plA inp ss),.agg (Lay.ly lay).A] (.tup [.s (.d (shD (outS lay (inS inp ss)))),.s (.d (.lit (.bool true)))]):=by
 have hsg:=hs.g
 cases lay with
 |dense ws bs=>
  have c:=lx_pdense (l:=Lay.ly (.dense ws bs)) hl hsg (n:=bs.length) rfl (by have:=ho.sz;simp[outS,szS]at this;omega) hf.2;refine LX_run (m:=0) (n0:=0) mix Tryz.func112 rfl rfl rfl rfl ?_;conv=>whnf
  refine .c (c) ?_;conv=>whnf
  exact .q ⟨rfl,rfl⟩
 |conv kh kw st pad ws bs=>
  have c:=lx_pconv (l:=Lay.ly (.conv kh kw st pad ws bs)) hl hsg hf.2.1 hf.1 (n:=bs.length) rfl rfl rfl rfl rfl (by have:=ho.g.d (i:=0) (d:=bs.length) rfl;omega) hf.2.2.2;refine LX_run (m:=0) (n0:=0) mix Tryz.func112 rfl rfl rfl rfl ?_;conv=>whnf
  refine .c (c) ?_;conv=>whnf
  exact .q ⟨rfl,rfl⟩
 |mx kh kw st=>
  obtain⟨d,hd⟩:=at_some (l:=inS inp ss) (i:=0) (by have:=hf.2;omega);have e:(inS inp ss).getD 0 0=d:=getD_of hd;have c:=lx_pwindows (l:=Lay.ly (.mx kh kw st)) (z:=(d:Nat)) hl hf.2 hf.1 rfl rfl rfl rfl;refine LX_run (m:=0) (n0:=0) mix Tryz.func112 rfl rfl rfl rfl ?_;conv=>whnf
  refine .c (lx_pin hl) ?_;conv=>whnf
  refine .mk (0) ([D.lit (.int .i64 (d:Nat))]) (rfl) (at_nI hd) ?_;conv=>whnf
  conv=>whnf
  refine .c (c) ?_;conv=>whnf
  refine .mk (by kernel_rfl) ?_;conv=>whnf
  exact .q ⟨by rw[show outS (.mx kh kw st) (inS inp ss)=[d,(winS (inS inp ss) kh kw st 0).rows,(winS (inS inp ss) kh kw st 0).cols] by rw[outS,e]];rfl,rfl⟩
 |av kh kw st=>
  obtain⟨d,hd⟩:=at_some (l:=inS inp ss) (i:=0) (by have:=hf.2;omega);have e:(inS inp ss).getD 0 0=d:=getD_of hd;have c:=lx_pwindows (l:=Lay.ly (.av kh kw st)) (z:=(d:Nat)) hl hf.2 hf.1 rfl rfl rfl rfl;refine LX_run (m:=0) (n0:=0) mix Tryz.func112 rfl rfl rfl rfl ?_;conv=>whnf
  refine .c (lx_pin hl) ?_;conv=>whnf
  refine .mk (0) ([D.lit (.int .i64 (d:Nat))]) (rfl) (at_nI hd) ?_;conv=>whnf
  conv=>whnf
  refine .c (c) ?_;conv=>whnf
  refine .mk (by kernel_rfl) ?_;conv=>whnf
  exact .q ⟨by rw[show outS (.av kh kw st) (inS inp ss)=[d,(winS (inS inp ss) kh kw st 0).rows,(winS (inS inp ss) kh kw st 0).cols] by rw[outS,e]];rfl,rfl⟩
 |relu=>
  refine LX_run (m:=0) (n0:=0) mix Tryz.func112 rfl rfl rfl rfl ?_;conv=>whnf
  refine .c (lx_pin hl) ?_;conv=>whnf
  exact .q ⟨rfl,rfl⟩
 |flat=>
  refine LX_run (m:=0) (n0:=0) mix Tryz.func112 rfl rfl rfl rfl ?_;conv=>whnf
  refine .c (lx_pin hl) ?_;conv=>whnf
  refine .c (lx_tsize hsg) ?_;conv=>whnf
  exact .s ⟨rfl,rfl⟩
 |add fr=>
  have c:=lx_padd (l:=Lay.ly (.add fr)) hl hsg hf.1 hf.2.1 hf.2.2;refine LX_run (m:=0) (n0:=0) mix Tryz.func112 rfl rfl rfl rfl ?_;conv=>whnf
  refine .c (c) ?_;conv=>whnf
  exact .q ⟨rfl,rfl⟩
abbrev rel (n:Nat):List Lay:=List.replicate n .relu
theorem Fit.layV {lay:Lay}{i:Nat}{ss:List (List Nat)}{s:List Nat}(h:Fit lay i ss s)(hp:(parS lay).length≤104)(hs:ShOk s):LayV i lay:=by
 cases lay with
 |dense ws bs=>
  obtain⟨h1,h2⟩:=h;have hl:ws.length+bs.length≤104:=by simpa [parS]using hp
  have h3:1≤bs.length*szS s:=Nat.mul_pos h1 (szS_pos hs.pos);exact⟨⟨h1,by omega⟩,⟨by omega,by omega⟩,by rw[h2];exact Nat.mul_mod_right _ _⟩
 |conv kh kw st pad ws bs=>
  obtain⟨ok,h0,h1,h2⟩:=h;have hl:ws.length+bs.length≤104:=by simpa [parS]using hp
  have hc:1≤s.getD 0 0:=ok.c;have h3:1≤bs.length*(s.getD 0 0*(kh*kw)):=Nat.mul_pos h1 (Nat.mul_pos hc (Nat.mul_pos ok.kh.1 ok.kw.1));have a1:=ok.kh;have a2:=ok.kw;have a3:=ok.st;simp only[winS]at a1 a2 a3;refine⟨⟨h1,by omega⟩,⟨by omega,by omega⟩,?_,⟨a1.1,by omega⟩,⟨a2.1,by omega⟩,⟨a3.1,by omega⟩,ok.ph,ok.pw⟩;rw[h2,show bs.length*(s.getD 0 0*(kh*kw))=bs.length*kh*kw*s.getD 0 0 by rw[Nat.mul_assoc bs.length kh kw,Nat.mul_assoc bs.length,Nat.mul_comm (kh*kw)]];exact Nat.mul_mod_right _ _
 |mx kh kw st=>
  have a1:=h.1.kh;have a2:=h.1.kw;have a3:=h.1.st;simp only[winS]at a1 a2 a3;exact⟨⟨a1.1,by omega⟩,⟨a2.1,by omega⟩,⟨a3.1,by omega⟩⟩
 |av kh kw st=>
  have a1:=h.1.kh;have a2:=h.1.kw;have a3:=h.1.st;simp only[winS]at a1 a2 a3;exact⟨⟨a1.1,by omega⟩,⟨a2.1,by omega⟩,⟨a3.1,by omega⟩⟩
 |relu=>trivial
 |flat=>trivial
 |add fr=>exact⟨h.1,h.2.1⟩
theorem rel_mov {inp:List Nat}{n:Nat}{lay:Lay}(hn:n≤60)(hi:ShG inp)(hv:LayV n lay)(hz:∀q∈parS lay,Sz q):MoV ⟨inp,rel n++[lay]⟩:=by
 refine⟨hi,by simp;omega,fun i l h=> ?_,fun l h q hq=> ?_⟩
 ·simp only at h
  by_cases h1:i<n
  ·rw[List.getElem?_append_left (by simpa using h1),List.getElem?_replicate,if_pos h1]at h;injection h with h;subst h;trivial
  ·rw[List.getElem?_append_right (by simp;omega)]at h;have h2:i-n=0:=by
    rcases eP_ (i-n)with h2|h2
    ·exact h2
    ·rw[List.getElem?_eq_none (by simp;omega)]at h;cases h
   have h3:i=n:=by omega
   rw[List.length_replicate,h2]at h;injection h with h;subst h;rw[h3];exact hv
 ·simp only[List.mem_append,List.mem_singleton]at h;rcases h with h|rfl
  ·rw[List.eq_of_mem_replicate h]at hq;exact absurd hq List.not_mem_nil
  ·exact hz q hq
theorem rel_snoc (n:Nat):lyR (rel (n+1))=lyR (rel n)++[(Lay.ly .relu).D]:=by
 rw[rel,List.replicate_succ',lyR,List.map_append];rfl
theorem rel_lay (n:Nat)(lay:Lay):lyR (rel n++[lay])=lyR (rel n)++[(Lay.ly lay).D]:=by rw[lyR,List.map_append];rfl
theorem lx_sout {inp:List Nat}{ss:List (List Nat)}{lay:Lay}(hl:ss.length≤60)(hi:ShG inp)(hss:∀s∈ss,ShG s)(hv:LayV ss.length lay)(hz:∀q∈parS lay,Sz q)
  (hs:ShOk (inS inp ss)) (ho:ShOk (outS lay (inS inp ss))) (hf:Fit lay ss.length (inp::ss) (inS inp ss)):
  LV Tryz.prog 58 [.a (.d (shD inp)),.a (.d (ssD ss)),.agg (Lay.ly lay).A] (.tup [.s (.d (shD (outS lay (inS inp ss)))),.s (.d (.lit (.int .i64 0)))]):=by
 have hm:=lx_mvalid (rel_mov hl hi hv hz);have hp:=lx_pout (by omega) hs ho hf;have hc:=lx_sclone (s:=outS lay (inS inp ss)) ho.l1 (by have:=ho.l4;omega);refine LX_run (m:=0) (n0:=0) mix Tryz.func58 rfl rfl rfl rfl ?_;conv=>whnf
 refine .mk Nat (fun i=>⟨[(17,vl (.int .i64 (i:Nat))),(16,vl (.int .i64 (ssR ss).length)),(15,.a (.d (ssD ss))),(8,.a (.ptr 1 0)),(5,.a (.ptr 0 0)),(1,.a (.d (ssD ss))),(0,.a (.d (shD inp)))],
  [(0,.box 59 (Lay.ly lay).A),(1,.box 25 [.d (shD inp),.own 2 9 (lyR (rel i))]),(2,.arr 59 9 (lyR (rel i)).length)],3⟩) (fun i=>i≤ss.length) (fun i=>ss.length-i) 0
  (Wk.trans (Wk.ownB 1 2 1 59 9 rfl rfl rfl) Wk.go) (zL_ _) fun i hi=> ?_
 conv=>whnf
 refine bs (fun g0=> ?_) (fun g0=> ?_)
 ·conv=>whnf
  have hi':i<ss.length:=by simpa using g0
  obtain⟨s,hs'⟩:=at_some hi';refine .mk (i) ([shD s]) (rfl) (at_ss hs') ?_;conv=>whnf
  conv=>whnf
  refine .c (lx_tvalid (hss s (mG_ hs'))) ?_;conv=>whnf
  refine .mk (lyR (rel (i+1))) rfl (rel_snoc i) (by simp;omega) ?_;conv=>whnf
  exact⟨i+1,Wk.go,hi',by omega⟩
 ·conv=>whnf
  have e:i=ss.length:=by have:¬i<ss.length:=by simpa using g0
                         omega
  rw[e];refine .mk (lyR (rel ss.length++[lay])) rfl (rel_lay _ _) (by simp;omega) ?_;conv=>whnf
  refine .c (hm) ?_;conv=>whnf
  refine .c (hp) ?_;conv=>whnf
  refine .c (lx_tvalid ho.g) ?_;conv=>whnf
  refine .c (hc) ?_;conv=>whnf
  exact .q ⟨rfl,rfl⟩
abbrev Mo.shT (m:Mo)(i:Nat):List (List Nat):=(List.range i).map fun j=>m.sh (j+1)
theorem shT_cons (m:Mo)(i:Nat):m.inp::m.shT i=m.shs (i+1):=by
 rw[Mo.shs,List.range_succ_eq_map,List.map_cons,List.map_map];rfl
theorem shT_in (m:Mo)(i:Nat):inS m.inp (m.shT i)=m.sh i:=by
 unfold inS;rw[shT_cons,List.length_map,List.length_range,Mo.shs,List.getD_eq_getElem?_getD,List.getElem?_map,List.getElem?_range (by omega)];rfl
theorem shT_snoc (m:Mo)(i:Nat):ssR (m.shT (i+1))=ssR (m.shT i)++[[shD (m.sh (i+1))]]:=by
 rw[Mo.shT,range_map_snoc,ssR,List.map_append];rfl
theorem MoOk.pz {m:Mo}(h:MoOk m){l:Lay}(hl:l∈m.ls):∀q∈parS l,Sz q:=fun q hq=>
 Bt.sz (k:=32) ⟨(h.par l hl q hq).1,(h.par l hl q hq).2⟩ (by decide)
theorem MoOk.lay {m:Mo}(h:MoOk m){i:Nat}{l:Lay}(hl:m.ls[i]? =some l):LayV i l:=by
 have h1:=h.fit i (at_lt hl);have h2:m.lay i=l:=getD_of hl;rw[h2]at h1;exact h1.layV (h.pn l (mG_ hl)) (h.sh i (by have:=at_lt hl;omega))
theorem MoOk.v {m:Mo}(h:MoOk m):MoV m:=⟨(h.sh 0 (zL_ _)).g,by have:=h.n;omega,fun i l hl=>h.lay hl,fun l hl=>h.pz hl⟩
theorem MoOk.ss {m:Mo}(h:MoOk m){i:Nat}(hi:i≤m.ls.length):∀s∈m.shT i,ShG s:=by
 intro s hs;obtain⟨j,hj,rfl⟩:=List.mem_map.1 hs;have:=List.mem_range.1 hj;exact(h.sh (j+1) (by omega)).g
theorem lx_sof {m:Mo}(h:MoOk m):LV Tryz.prog 26 [.agg m.A] (.tup [.s (.d (ssD (m.shT m.ls.length))),.s (.d (.lit (.int .i64 0))),.s (.d (.lit (.int .i64 0)))]):=by
 have hn:=h.n;refine LX_run (m:=0) (n0:=0) mix Tryz.func26 rfl rfl rfl rfl ?_;conv=>whnf
 refine .c (lx_mvalid h.v) ?_;conv=>whnf
 refine .mk Nat (fun i=>⟨[(16,vl (.int .i64 (i:Nat))),(15,vl (.int .i64 (lyR m.ls).length)),(14,.a (.d (lysD m.ls))),(5,.a (.own 1 1 (ssR (m.shT i)))),(1,.a (.ptr 0 0))],
  [(0,.box 25 m.A),(1,.arr 22 1 (ssR (m.shT i)).length)],2⟩) (fun i=>i≤m.ls.length) (fun i=>m.ls.length-i) 0
  (Wk.trans (Wk.own 5 1 22 1 rfl rfl (zL_ _)) Wk.go) (zL_ _) fun i hi=> ?_
 conv=>whnf
 refine bs (fun g0=> ?_) (fun g0=> ?_)
 ·conv=>whnf
  have hi':i<m.ls.length:=by simpa using g0
  obtain⟨x,hx⟩:=at_some hi';have ex:m.lay i=x:=getD_of hx;have ef:=h.fit i hi';rw[ex]at ef;have hin:=shT_in m i;have hln:(m.shT i).length=i:=by simp
  have es:m.sh (i+1)=outS x (m.sh i):=by rw[←ex];rfl
  have c:=lx_sout (inp:=m.inp) (ss:=m.shT i) (lay:=x) (by omega) (h.sh 0 (zL_ _)).g (h.ss (by omega)) (by rw[hln];exact h.lay hx) (h.pz (mG_ hx))
   (by rw[hin];exact h.sh i (by omega)) (by rw[hin,←es];exact h.sh (i+1) (by omega)) (by rw[hin,hln,shT_cons];exact ef)
  rw[hin,←es]at c;refine .mk (i) ((Lay.ly x).D) (rfl) (at_ly hx) ?_;conv=>whnf
  conv=>whnf
  refine .c (c) ?_;conv=>whnf
  refine .mk (ssR (m.shT (i+1))) rfl (shT_snoc m i) (by simp;omega) ?_;conv=>whnf
  exact⟨i+1,Wk.go,hi',by omega⟩
 ·conv=>whnf
  have e:i=m.ls.length:=by have:¬i<m.ls.length:=by simpa using g0
                           omega
  rw[e];exact .s ⟨rfl,rfl⟩
def Mo.cur (m:Mo)(x:List Rat)(i:Nat):List Rat:=(m.al x i).getD i []
def Mo.trc (m:Mo)(x:List Rat)(i:Nat):List (List Rat):=(m.al x i).tail
section
variable {m:Mo} {x:List Rat}
theorem al_ln (i:Nat):(m.al x i).length=i+1:=by
 induction i with
 |zero=>rfl
 |succ i ih=>rw[Mo.al,List.length_append,ih];rfl
theorem al_cons (i:Nat):m.al x i=x::m.trc x i:=by
 unfold Mo.trc
 induction i with
 |zero=>rfl
 |succ i ih=>rw[Mo.al,ih];rfl
theorem al_get {i j:Nat}(h:j≤i):(m.al x i).getD j []=m.cur x j:=by
 induction i with
 |zero=>rw[show j=0 by omega];rfl
 |succ i ih=>
  rcases Nat.lt_or_ge j (i+1)with h1|h1
  ·have ih:=ih (by omega);rw[List.getD_eq_getElem?_getD]at ih;rw[Mo.al,List.getD_eq_getElem?_getD,List.getElem?_append_left (by rw[al_ln];omega),ih]
  ·rw[show j=i+1 by omega];rfl
theorem cur_snoc (i:Nat):m.cur x (i+1)=eLay (m.lay i) (m.sh i) (m.al x i) (m.cur x i):=by
 rw[Mo.cur,Mo.al,List.getD_eq_getElem?_getD,List.getElem?_append_right (by rw[al_ln];omega),al_ln,Nat.sub_self];rfl
theorem trc_snoc (i:Nat):m.trc x (i+1)=m.trc x i++[m.cur x (i+1)]:=by
 have e:m.al x (i+1)=m.al x i++[m.cur x (i+1)]:=by rw[cur_snoc];rfl
 rw[Mo.trc,e,Mo.trc,al_cons];rfl
theorem trc_ln (i:Nat):(m.trc x i).length=i:=by
 have:=al_ln (m:=m) (x:=x) i;rw[al_cons,List.length_cons]at this;omega
theorem al_mem {i:Nat}{y:List Rat}(h:y∈m.al x i):∃j,j≤i∧y=m.cur x j:=by
 obtain⟨j,hj,e⟩:=List.getElem_of_mem h;rw[al_ln]at hj;refine⟨j,by omega,?_⟩;rw[←al_get (i:=i) (j:=j) (by omega),List.getD_eq_getElem?_getD,List.getElem?_eq_getElem (by rw[al_ln];omega),←e];rfl
theorem MoOk.cur (h:MoOk m)(hx:∀v∈x,Lv m.L 1 v)(hn:x.length=szS m.inp):∀(i:Nat),i≤m.ls.length→(∀j,j≤i→(∀v∈m.cur x j,Lv m.L (1+2*i) v)∧(m.cur x j).length=szS (m.sh j)):=by
 intro i
 induction i with
 |zero=>intro _ j hj;rw[show j=0 by omega];exact⟨hx,hn⟩
 |succ i ih=>
  intro hi j hj;have ih:=ih (by omega);rcases Nat.lt_or_ge j (i+1)with h1|h1
  ·obtain⟨a,b⟩:=ih j (by omega);exact⟨fun v hv=>(a v hv).mono h.L (by omega),b⟩
  ·rw[show j=i+1 by omega,cur_snoc];obtain⟨a,b⟩:=ih i (by omega);have hs:=h.sh i (by omega);refine⟨fun v hv=> ?_,?_⟩
   ·have:=ev_lv (h.lv (i:=i) (by omega)) hs.sz a b (fun y hy v hv=>by
     obtain⟨j,hj,rfl⟩:=al_mem hy;exact(ih j hj).1 v hv) (h.fit i (by omega)) v hv
    exact this.mono h.L (by omega)
   ·exact out_ln _ _ _ _ _ _ b (h.fit i (by omega))
theorem MoOk.evh (h:MoOk m)(hx:∀v∈x,Lv m.L 1 v)(hn:x.length=szS m.inp){i:Nat}(hi:i<m.ls.length):EvH m.L (1+2*i) (m.lay i) (m.sh i) (m.cur x i) x (m.trc x i):=by
 have hc:=h.cur hx hn i (by omega);have hn6:=h.n;refine⟨h.lv hi,by omega,(hc i (lR_ _)).1,(hc 0 (zL_ _)).1,fun y hy=> ?_,(hc i (lR_ _)).2,(h.sh i (by omega)).sz,(h.sh (i+1) (by omega)).sz,⟨_,_,h.fit i hi⟩,fun fr hfr=> ?_⟩
 ·obtain⟨j,hj,rfl⟩:=al_mem (i:=i) (by rw[al_cons];exact List.mem_cons_of_mem _ hy);exact(hc j hj).1
 ·have hf:=h.fit i hi;rw[hfr]at hf;obtain⟨f1,f2,f3⟩:=hf;rw[←al_cons,al_ln];refine⟨f1,by omega,?_⟩;rw[al_get (by omega),(hc _ (by omega)).2,(hc i (lR_ _)).2];rw[Mo.shs,List.getD_eq_getElem?_getD,List.getElem?_map,List.getElem?_range (by omega)]at f3;exact congrArg szS f3
end
def Mo.lyP (m:Mo):Nat→Ly
 |0=>⟨0,0,0,0,0,0,0,[],[]⟩
 |i+1=>Lay.ly (m.lay i)
theorem trc_rows (m:Mo)(x:List Rat)(i:Nat):trR (m.trc x (i+1))=trR (m.trc x i)++[[rqsD (m.cur x (i+1))]]:=by rw[trc_snoc,trR,List.map_append];rfl
theorem lx_trace {m:Mo}(h:MoOk m){x:List Rat}(hx:∀v∈x,Lv m.L 1 v)(hn:x.length=szS m.inp):
  LV Tryz.prog 25 [.agg m.A,.a (.d (rqsD x))] (.tup [.s (.d (.sl 1 (trR (m.trc x m.ls.length)))),.s (.d (.lit (.int .i64 0)))]):=by
 have hn6:=h.n;refine LX_run (m:=0) (n0:=0) mix Tryz.func25 rfl rfl rfl rfl ?_;conv=>whnf
 refine .c (lx_sof h) ?_;conv=>whnf
 refine .c (lx_tsize (h.sh 0 (zL_ _)).g) ?_;conv=>whnf
 refine bF (by simp[hn]) ?_;conv=>whnf
 refine .mk Nat (fun i=>⟨[(36,vl (.int .i64 (i:Nat))),(35,vl (.int .i64 (lyR m.ls).length)),(34,.a (.d (lysD m.ls))),(10,.a (.ptr 1 0)),(9,.a (.own 2 1 (trR (m.trc x i)))),(6,.a (.d (ssD (m.shT m.ls.length))))],
  [(0,.box 25 m.A),(1,.box 104 (stA (m.lyP i) (m.sh i) (m.cur x i) x (m.trc x (i-1)))),(2,.arr 29 1 (trR (m.trc x i)).length)],3⟩) (fun i=>i≤m.ls.length) (fun i=>m.ls.length-i) 0
  (Wk.trans (Wk.own 9 2 29 1 rfl rfl (zL_ _)) Wk.go) (zL_ _) fun i hi=> ?_
 conv=>whnf
 refine bs (fun g0=> ?_) (fun g0=> ?_)
 ·conv=>whnf
  have hi':i<m.ls.length:=by simpa using g0
  obtain⟨l,hl⟩:=at_some hi';have el:m.lay i=l:=getD_of hl;have c:=ev_output (h.evh hx hn hi');subst el;rw[←al_cons,←cur_snoc]at c;refine .mk (i) ((Lay.ly (m.lay i)).D) (rfl) (at_ly hl) ?_;conv=>whnf
  conv=>whnf
  refine .c (c) ?_;conv=>whnf
  refine .mk (i) ([shD (m.sh (i+1))]) (rfl) (at_ss (by rw[List.getElem?_map,List.getElem?_range hi'];rfl)) ?_;conv=>whnf
  conv=>whnf
  refine .mk (trR (m.trc x (i+1))) rfl (trc_rows m x i) (by rw[List.length_map,trc_ln];omega) ?_;conv=>whnf
  exact⟨i+1,Wk.go (h2:=⟨⟨_,rfl,wke_refl _,rfl⟩,⟨_,rfl,⟨_,rfl,aR_ _,aR_ _,aR_ _,aR_ _,aR_ _,aR_ _,aR_ _,aR_ _,aR_ _,aR_ _,aR_ _,aR_ _,WkA.own,trivial⟩,rfl⟩,⟨_,rfl,wke_refl _,rfl⟩,trivial⟩),hi',by omega⟩
 ·conv=>whnf
  have e:i=m.ls.length:=by have:¬i<m.ls.length:=by simpa using g0
                           omega
  rw[e];exact .s ⟨rfl,rfl⟩
theorem trc_at (m:Mo)(x:List Rat)(n:Nat):(trR (m.trc x (n+1)))[n]? =some [rqsD (m.cur x (n+1))]:=by
 rw[trc_rows,List.getElem?_append_right (by rw[List.length_map,trc_ln];exact lR_ _),List.length_map,trc_ln,Nat.sub_self];rfl
theorem MoOk.rl {m:Mo}(h:MoOk m){x:List Rat}(hx:∀v∈x,Lv m.L 1 v)(hn:x.length=szS m.inp):(m.cur x m.ls.length).length≤24:=by
 rw[((h.cur hx hn _ (lR_ _)) _ (lR_ _)).2];exact(h.sh _ (lR_ _)).sz
theorem lx_run {m:Mo}(h:MoOk m){x:List Rat}(hx:∀v∈x,Lv m.L 1 v)(hn:x.length=szS m.inp):
  LV Tryz.prog 8 [.agg m.A,.a (.d (rqsD x))] (.tup [.s (.d (rqsD (m.out x))),.s (.d (.lit (.int .i64 0)))]):=by
 have hn6:=h.n;have hl:=h.rl hx hn;have hx24:x.length≤24:=by rw[hn];exact(h.sh 0 (zL_ _)).sz
 have ho:m.out x=m.cur x m.ls.length:=rfl;refine LX_run (m:=0) (n0:=0) mix Tryz.func8 rfl rfl rfl rfl ?_;conv=>whnf
 refine .c (lx_trace h hx hn) ?_;conv=>whnf
 refine bs (fun g0=> ?_) (fun g0=> ?_)
 ·conv=>whnf
  have e:m.ls.length=0:=by simpa [trc_ln]using g0
  refine .own ?_;conv=>whnf
  refine .mk (rqR x) rfl rfl (by simp;omega) ?_;conv=>whnf
  exact .s ⟨by rw[ho,e];rfl,rfl⟩
 ·conv=>whnf
  have e:m.ls.length≠0:=by simpa [trc_ln]using g0
  obtain⟨n,hn'⟩:∃n,m.ls.length=n+1:=⟨m.ls.length-1,by omega⟩;refine .own ?_;conv=>whnf
  refine .mk (n) ([rqsD (m.cur x m.ls.length)]) (by rw[List.length_map,trc_ln,hn',show(((n+1:Nat):Int)-1)=(n:Nat) by omega,wrN (by omega)]) ((by rw[hn'];exact trc_at m x n)) ?_;conv=>whnf
  conv=>whnf
  refine .mk (rqR (m.cur x m.ls.length)) rfl rfl (by simp;omega) ?_;conv=>whnf
  exact .s ⟨rfl,rfl⟩
section
variable {P:Program} {F:FuncId} {vs gs:List V} {H:List (Nat×Ent)} {n:Nat} {K:V→List (Nat×Ent)→List Nat→Nat→Prop} {v:V} {R:V→Prop}
def okFK (ks:List Nat)(n:Nat)(gs:List V)(H H1:List (Nat×Ent)):Bool:=
 decide ks.Nodup&&ks.all (fun k=>Nat.blt k n)&&(gs.flatMap keysV).all (fun k=>ks.contains k)&&H1.all (fun p=>(Nat.blt p.1 ks.length||(look H (back ks n p.1)).isNone))
theorem Cn.lK {Hs H1:List (Nat×Ent)}(ks:List Nat)(hc:LX P F ((vs.map stripV).map (renV fun k=>ks.idxOf k)) Hs fun v' H'=>v'=v∧H'=H1)
  (hk:fX (renV (back ks n) v) fun v=>fHs (H1.map fun p=>(back ks n p.1,renE (back ks n) p.2)) fun sets=>K v sets (ks++H1.map fun p=>back ks n p.1) (n+H1.length)) (he:entT P F=true:=by rfl)
  (hl:lendKF ks (look H) 0 ks=some Hs:=by rfl) (hok:okFK ks n (vs.map stripV) H H1=true:=by rfl):Cn P F vs H n K:=by
 unfold okFK at hok;simp only[Bool.and_eq_true,Bool.or_eq_true,decide_eq_true_eq,List.all_eq_true,Nat.blt_eq,List.contains_eq_mem]at hok;obtain⟨⟨⟨o1,o2⟩,o3⟩,o4⟩:=hok;refine .lendK ks _ Hs _ he hc (strips_ok vs) o1 o2 hl o3 fun v' H1' hR=> ?_;obtain⟨rfl,rfl⟩:=hR;exact⟨fun p hp hle=>(o4 p hp).elim (fun h=>absurd h (by omega)) fun h=>by simpa using h,hk⟩
end
abbrev itV (z:Int):V:= .agg [.d (.lit (.bool (decide (z<0)))),.d (.lm (limbs z.natAbs))]
theorem lx_iof {z:Int}(h1: -9223372036854775808≤z)(h2:z<9223372036854775808):LV Tryz.prog 84 [vl (.int .i64 z)] (itV z):=li_of h1 h2
theorem lx_rmake {y z:Int}(hz:z≠0)(h1:y.natAbs<18446744073709551616)(h2:z.natAbs<18446744073709551616):
  LV Tryz.prog 172 [itV y,itV z] (qE ((y:Rat)/z)):=by
 have hp:0<z.natAbs:=by omega
 have hy:sz y.natAbs≤2:=sz_le_two.2 h1;have hu:sz z.natAbs≤2:=sz_le_two.2 h2;unfold sz at hy hu;have e:=div_sign (decide (y<0)) (decide (z<0)) y.natAbs z.natAbs hp;have k:=li_sign (b:=decide (z<0)) (val_limbs z.natAbs) (by omega);have hs:(z.sign==0)=false:=by simpa [Int.sign_eq_zero_iff_zero]using hz
 rw[iv_self]at k;rw[iv_self,iv_self]at e;rw[←e];show LV _ _ [rI (decide (y<0)) (limbs y.natAbs),rI (decide (z<0)) (limbs z.natAbs)] _;generalize decide (y<0)=g1 at *
 generalize decide (z<0)=g2 at *
 cases g1<;>cases g2
 all_goals refine LX_run (m:=0) (n0:=0) mix Tryz.func172 rfl rfl rfl rfl ?_
           conv=>whnf
 all_goals refine .c (k) ?_
           conv=>whnf
 all_goals refine bF (hs) ?_
           conv=>whnf
 all_goals refine .c (lq_quot (val_limbs _) (val_limbs _) hp (by omega) (by omega)) ?_
           conv=>whnf
 all_goals try (refine Nc.mk (by kernel_rfl) ?_;conv=>whnf)
 all_goals exact .q ⟨rfl,rfl⟩
theorem lx_rfrac {y z:Int}(h1: -9223372036854775808≤y)(h2:y<9223372036854775808)(h3: -9223372036854775808≤z)(h4:z<9223372036854775808)(hz:z≠0):
  LV Tryz.prog 117 [vl (.int .i64 y),vl (.int .i64 z)] (.tup [.g [.d (.lit (.bool (decide ((y:Rat)/z<0)))),.d (.lm (limbs ((y:Rat)/z).num.natAbs)),.d (.lm (limbs (dn ((y:Rat)/z))))],.s (.d (.lit (.int .i64 0)))]):=by
 refine LX_run (m:=0) (n0:=0) mix Tryz.func117 rfl rfl rfl rfl ?_;conv=>whnf
 refine .c (lx_iof h1 h2) ?_;conv=>whnf
 refine .c (lx_iof h3 h4) ?_;conv=>whnf
 refine .c (lx_rmake hz (by omega) (by omega)) ?_;conv=>whnf
 exact .q ⟨rfl,rfl⟩
theorem lx_lvar {v:Int}:LV Tryz.prog 30 [vl (.int .i64 v)] (.agg (varS v).A):=by
 refine LX_run (m:=0) (n0:=0) mix Tryz.func30 rfl rfl rfl rfl ?_;conv=>whnf
 refine .c (lx_rof (z:=1) (by decide) (by decide)) ?_;conv=>whnf
 exact .s ⟨by show _=V.agg (A.d _::(can 0).A);rw[can0];rfl,rfl⟩
theorem lx_lnum {q:Rat}:LV Tryz.prog 114 [ratV q] (.agg (numS q).A):=by
 refine LX_run (m:=0) (n0:=0) mix Tryz.func114 rfl rfl rfl rfl ?_;conv=>whnf
 exact⟨_,_,⟨rfl,rfl⟩,WkV.agg ⟨WkA.nil,aR_ _,aR_ _,aR_ _,trivial⟩,rfl,trivial,rfl⟩
abbrev gUs (n:Int)(k:Nat)(us:List Af):List A:=[.d (.lit (.int .i64 n)),.own k 4 (us.map Af.D),.d (.lit (.slice none 0 0))]
theorem lx_unit1 {f:Af}{us:List Af}{n:Nat}(hn:n≤1000)(hu:us.length≤1000):
  LX Tryz.prog 29 [.agg f.A,.a (.ptr 0 0)] [(0,.box 36 (gUs (n:Nat) 1 us)),(1,.arr 79 4 (us.map Af.D).length)] fun v H=>v= .agg (varS ((n+us.length:Nat):Int)).A∧
   H=[(0,.box 36 (gUs (n:Nat) 1 (us++[f]))),(1,.arr 79 4 ((us++[f]).map Af.D).length)]:=by
 have ew:IntKind.i64.wrap (IntKind.i64.wrap ((n:Int)+(((us++[f]).map Af.D).length:Int))-1)=((n+us.length:Nat):Int):=by
  have e1:IntKind.i64.wrap ((n:Int)+(((us++[f]).map Af.D).length:Int))=((n+us.length+1:Nat):Int):=by
   rw[List.length_map,List.length_append,List.length_singleton,wr64 (by omega) (by omega)];omega
  rw[e1,wr64 (by omega) (by omega)];omega
 refine LX_run (m:=2) (n0:=2) mix Tryz.func29 rfl rfl rfl rfl ?_;conv=>whnf
 refine .mk ((us++[f]).map Af.D) rfl (by rw[List.map_append];rfl) (by simp;omega) ?_;conv=>whnf
 rw[ew];refine .c (lx_lvar) ?_;conv=>whnf
 exact⟨_,_,⟨rfl,rfl⟩,vR_ _,rfl,⟨⟨_,rfl,wke_refl _,rfl⟩,⟨_,rfl,wke_refl _,rfl⟩,trivial⟩,rfl⟩
theorem lx_lmean {l:List Af}{L e:Nat}{n:Int}(hL:LOk L)(he:e≤1000)(hx:∀f∈l,FLv L e e n f)(h0:0≤n)(hn:n≤100000)(hl:l.length≤1000)(h1:1≤l.length)(hq:Lv L 1 (1/(l.length:Rat))):LV Tryz.prog 64 [.a (.d (afsD l))] (.agg (meanG afO l).A):=by
 have hr:((1:Int):Rat)/((l.length:Int):Rat)=1/(l.length:Rat):=rfl;have hsum:∀i,i≤l.length→FLv L (e+1) (e+1) n (sumG afO (l.take i)):=fun i hi=>FLv.sumTo hL (fun f hf=>hx f (List.mem_of_mem_take hf)) (by simp;omega);have hlast:l.take l.length=l:=List.take_length;refine LX_run (m:=0) (n0:=0) mix Tryz.func64 rfl rfl rfl rfl ?_;conv=>whnf
 refine .mk Nat (fun i=>⟨[(10,vl (.int .i64 (i:Nat))),(9,vl (.int .i64 (l.map Af.D).length)),(8,.a (.d (afsD l))),(3,.a (.ptr 1 0)),(2,.a (.ptr 0 0)),(0,.a (.d (afsD l)))],
  [(0,.box 79 (numS 0).A),(1,.box 79 (sumG afO (l.take i)).A)],2⟩) (fun i=>i≤l.length) (fun i=>l.length-i) 0
  (Wk.go (h2:=by rw[show sumG afO (l.take 0)=numS 0 from rfl,numS0_A];exact⟨⟨_,rfl,⟨_,rfl,WkA.nil,aR_ _,aR_ _,aR_ _,trivial⟩,rfl⟩,⟨_,rfl,⟨_,rfl,WkA.nil,aR_ _,aR_ _,aR_ _,trivial⟩,rfl⟩,trivial⟩)) (zL_ _) fun i hi=> ?_
 conv=>whnf
 refine bs (fun g0=> ?_) (fun g0=> ?_)
 ·conv=>whnf
  have hi':i<l.length:=by simpa using g0
  obtain⟨f,hf⟩:=at_some hi';have h2:=pl_add ((hsum i (by omega)).fb (m:=e+1) hL (by omega) (by omega)) ((hx f (mG_ hf)).fb (m:=e+1) hL (by omega) (by omega)) h0 hn (by omega);rw[show addS (sumG afO (l.take i)) f=sumG afO (l.take (i+1)) by rw[take_snoc hf,sumG,sumG,List.foldl_append];rfl]at h2;refine .mk (i) (f.D) (rfl) (at_map hf) ?_;conv=>whnf
  conv=>whnf
  refine .c (h2) ?_;conv=>whnf
  exact⟨i+1,Wk.go,hi',by omega⟩
 ·conv=>whnf
  have e0:i=l.length:=by have:¬i<l.length:=by simpa using g0
                         omega
  rw[e0,hlast];rw[List.length_map];refine .c (lx_rfrac (y:=1) (z:=(l.length:Int)) (by decide) (by decide) (by omega) (by omega) (by omega)) ?_;conv=>whnf
  have hq':=pl_scale (((hsum l.length (lR_ _)).fb (m:=e+1) hL (by omega) (by omega))) (hq.bt hL) h0 hn (by omega);rw[hlast,←hr]at hq';refine .c (hq') ?_;conv=>whnf
  exact .q ⟨by rw[hr];rfl,rfl⟩
abbrev alR (all:List (List Af)):List (List D):=all.map fun l=>[afsD l]
abbrev lwA (l:Ly)(s:List Nat)(vs:List Af)(all:List (List Af)):List A:=[.d (.lit (.int .i64 l.kind)),.d (.lit (.int .i64 l.fr)),.d (.lit (.int .i64 l.out)),.d (.lit (.int .i64 l.kh)),.d (.lit (.int .i64 l.kw)),.d (.lit (.int .i64 l.st)),.d (.lit (.int .i64 l.pad)),.d (rqsD l.ws),.d (rqsD l.bs),.d (shD s),.d (afsD vs),.own 3 1 (alR all),.fn (.func 29) [] [.ptr 1 0]]
abbrev lwH (l:Ly)(s:List Nat)(vs:List Af)(all:List (List Af))(n:Nat)(us:List Af):List (Nat×Ent):=
 [(0,.box 76 (lwA l s vs all)),(1,.box 36 (gUs (n:Nat) 2 us)),(2,.arr 79 4 (us.map Af.D).length),(3,.arr 34 1 (alR all).length)]
def Fl (L e:Nat)(n:Int)(l:List Af):Prop:=∀f∈l,FLv L e e n f
theorem Fl.at {L e i:Nat}{n:Int}{l:List Af}{f:Af}(h:Fl L e n l)(hf:l[i]? =some f):FLv L e e n f:=h f (mG_ hf)
theorem lw_dense {l:Ly}{s:List Nat}{vs us:List Af}{all:List (List Af)}{L e n:Nat}{N:Int}(hL:LOk L)(he:e≤1000)(h0:0≤N)(hN:N≤100000)(hx:Fl L e N vs)(hw:Ll L 1 l.ws)(hb:Ll L 1 l.bs)(hn:vs.length≤24)(hbl:l.bs.length≤24)(hwl:l.ws.length=l.bs.length*vs.length):
  LX Tryz.prog 60 [.a (.ptr 0 0)] (lwH l s vs all n us) fun v H=>v= .a (.d (afsD (denseG afO l.ws l.bs vs)))∧H=lwH l s vs all n us:=by
 refine LX_run (m:=4) (n0:=4) mix Tryz.func60 rfl rfl rfl rfl ?_;conv=>whnf
 refine .mk Nat (fun r=>⟨[(15,vl (.int .i64 (r:Nat))),(14,vl (.int .i64 (rqR l.bs).length)),(13,.a (.d (rqsD l.bs))),(3,.a (.own 4 4 (((List.range r).map fun r=>dotN afO l.ws (r*vs.length) vs (l.bs.getD r 0) vs.length).map Af.D))),(0,.a (.ptr 0 0))],
  (4,.arr 79 4 (((List.range r).map fun r=>dotN afO l.ws (r*vs.length) vs (l.bs.getD r 0) vs.length).map Af.D).length)::lwH l s vs all n us,5⟩) (fun r=>r≤l.bs.length) (fun r=>l.bs.length-r) 0
  (Wk.trans (Wk.own 3 4 79 4 rfl rfl (by decide)) Wk.go) (zL_ _) fun r hr=> ?_
 generalize hO:(List.range r).map (fun r=>dotN afO l.ws (r*vs.length) vs (l.bs.getD r 0) vs.length)=O;conv=>whnf
 refine bs (fun g0=> ?_) (fun g0=> ?_)
 ·conv=>whnf
  have hr':r<l.bs.length:=by simpa using g0
  obtain⟨b,hb'⟩:=at_some hr';have eb:l.bs.getD r 0=b:=getD_of hb';have zb:=hb.at hb';refine .mk (r) ((can b).D) (rfl) (at_rq hb') ?_;conv=>whnf
  conv=>whnf
  refine .c (lx_lnum) ?_;conv=>whnf
  refine .mk Nat (fun k=>⟨[(27,vl (.int .i64 (k:Nat))),(26,vl (.int .i64 (vs.map Af.D).length)),(25,.a (.d (afsD vs))),(6,.a (.ptr 6 0)),(4,vl (.int .i64 (r:Nat))),(15,vl (.int .i64 (r:Nat))),(14,vl (.int .i64 (rqR l.bs).length)),(13,.a (.d (rqsD l.bs))),(3,.a (.own 4 4 (O.map Af.D))),(0,.a (.ptr 0 0))],
   (6,.box 79 (dotN afO l.ws (r*vs.length) vs b k).A)::(4,.arr 79 4 (O.map Af.D).length)::lwH l s vs all n us,7⟩) (fun k=>k≤vs.length) (fun k=>vs.length-k) 0
   Wk.go (zL_ _) fun k hk=> ?_
  have hd:=FLv.dotN (k:=k) hL (r*vs.length) hw hx zb (by omega);conv=>whnf
  refine bs (fun g1=> ?_) (fun g1=> ?_)
  ·conv=>whnf
   have hk':k<vs.length:=by simpa using g1
   obtain⟨v,hv⟩:=at_some hk';have hix:r*vs.length+k<l.ws.length:=by
    rw[hwl];have:=Nat.mul_le_mul_right vs.length (show r+1≤l.bs.length from hr');rw[Nat.add_mul]at this;omega
   obtain⟨w,hw'⟩:=at_some hix;have zv:=hx.at hv;have zw:=hw.at hw';have hm:r*vs.length≤24*24:=Nat.mul_le_mul (by omega) hn;have ei:IntKind.i64.wrap (IntKind.i64.wrap ((r:Int)*((vs.map Af.D).length:Int))+(k:Int))=((r*vs.length+k:Nat):Int):=by
    rw[List.length_map,←Int.natCast_mul,wrN (n:=r*vs.length) (by omega),←Int.natCast_add,wrN (by omega)]
   have es:dotN afO l.ws (r*vs.length) vs b (k+1)=addS (dotN afO l.ws (r*vs.length) vs b k) (scaleS v w):=by
    rw[dotN,atO,getD_of hv,getD_of hw'];rfl
   have c1:=pl_scale (zv.fb (m:=e) hL (by omega) (by omega)) (zw.bt hL) h0 hN (by omega);have c2:=pl_add (hd.fb (m:=e+2) hL (by omega) (by omega)) ((zv.scale zw).fb (m:=e+2) hL (by omega) (by omega)) h0 hN (by omega);rw[←es]at c2;refine .mk (k) (v.D) (rfl) (at_map hv) ?_;conv=>whnf
   conv=>whnf
   rw[ei];refine .mk (r*vs.length+k) ((can w).D) (rfl) (at_rq hw') ?_;conv=>whnf
   conv=>whnf
   refine .c (c1) ?_;conv=>whnf
   refine .c (c2) ?_;conv=>whnf
   refine .mk (by kernel_rfl) ?_;conv=>whnf
   exact⟨k+1,Wk.go,hk',by omega⟩
  ·conv=>whnf
   have ek:k=vs.length:=by simp at g1;omega
   subst ek;refine .mk ((O++[dotN afO l.ws (r*vs.length) vs b vs.length]).map Af.D) rfl (by rw[List.map_append];rfl) (by rw[List.length_map,List.length_append,←hO];simp;omega) ?_;conv=>whnf
   exact⟨r+1,by rw[range_map_snoc,hO,eb];exact Wk.go,hr',by omega⟩
 ·conv=>whnf
  have er:r=l.bs.length:=by simp at g0;omega
  subst er;exact⟨_,_,⟨rfl,rfl⟩,by rw[←hO];exact WkV.of WkA.own,rfl,⟨⟨_,rfl,wke_refl _,rfl⟩,⟨_,rfl,wke_refl _,rfl⟩,⟨_,rfl,wke_refl _,rfl⟩,⟨_,rfl,wke_refl _,rfl⟩,trivial⟩,rfl⟩
theorem lw_windows {l:Ly}{s:List Nat}{vs us:List Af}{all:List (List Af)}{n kh kw st pad:Nat}(h1:l.kh=kh)(h2:l.kw=kw)(h3:l.st=st)(h4:l.pad=pad)(hs:s.length=3)(ok:(winS s kh kw st pad).Ok):
  LX Tryz.prog 115 [.a (.ptr 0 0)] (lwH l s vs all n us) fun v H=>v= .a (.d (wnD (winS s kh kw st pad).all))∧H=lwH l s vs all n us:=by
 have hc:=lx_windows ok;rw[←shD3 hs]at hc;refine LX_run (m:=4) (n0:=4) mix Tryz.func115 rfl rfl rfl rfl ?_;conv=>whnf
 rw[h1,h2,h3,h4];refine .c (hc) ?_;conv=>whnf
 refine .mk (by kernel_rfl) ?_;conv=>whnf
 rw[←h1,←h2,←h3,←h4];exact⟨_,_,⟨rfl,rfl⟩,vR_ _,rfl,⟨⟨_,rfl,wke_refl _,rfl⟩,⟨_,rfl,wke_refl _,rfl⟩,⟨_,rfl,wke_refl _,rfl⟩,⟨_,rfl,wke_refl _,rfl⟩,trivial⟩,rfl⟩
abbrev afR (l:List Af):List (List D):=l.map Af.D
theorem lw_conv {l:Ly}{s:List Nat}{x us:List Af}{all:List (List Af)}{L e n:Nat}{N:Int}{kh kw st pad:Nat}(hL:LOk L)(he:e≤1000)(h0:0≤N)(hN:N≤100000)(hx:Fl L e N x)(hw:Ll L 1 l.ws)(hb:Ll L 1 l.bs)(hbl:l.bs.length≤24)
  (h1:l.kh=kh) (h2:l.kw=kw) (h3:l.st=st) (h4:l.pad=pad) (hs:s.length=3) (ok:(winS s kh kw st pad).Ok) (hn:x.length=szS s) (hwl:l.ws.length=l.bs.length*(s.getD 0 0*(kh*kw))):
  LX Tryz.prog 61 [.a (.ptr 0 0)] (lwH l s x all n us) fun v H=>v= .a (.d (afsD (convG afO (winS s kh kw st pad).all l.ws l.bs x)))∧H=lwH l s x all n us:=by
 obtain⟨_,_,⟨rfl,rfl⟩,hwin⟩:=lw_windows (l:=l) (vs:=x) (us:=us) (all:=all) (n:=n) h1 h2 h3 h4 hs ok;have hwin:LX Tryz.prog 115 [.a (.ptr 0 0)] (lwH l s x all n us) fun v H=>v= .a (.d (wnD (winS s kh kw st pad).all))∧H=lwH l s x all n us:=⟨_,_,⟨rfl,rfl⟩,hwin⟩;have bd:=ok.bd;have hal:∀w∈(winS s kh kw st pad).all,w.length=s.getD 0 0*(kh*kw):=fun w h=>Wn.all_len h
 have hmb:∀w∈(winS s kh kw st pad).all,∀z∈w,-1≤z∧z<(x.length:Int):=fun w h z hz=>by
  have:=Wn.mem_b h hz;rw[hn,len3 hs,szS3];exact this
 have hm1:s.getD 0 0*(kh*kw)≤864:=bd.len;have hWl:(winS s kh kw st pad).all.length≤900:=by rw[Wn.all_ln];exact bd.p1
 generalize (winS s kh kw st pad).all=W at *
 generalize s.getD 0 0*(kh*kw)=m at *
 refine LX_run (m:=4) (n0:=4) mix Tryz.func61 rfl rfl rfl rfl ?_;conv=>whnf
 refine Cn.lK [0,1,2,3] hwin ?_;conv=>whnf
 refine .mk Nat (fun c=>⟨[(20,vl (.int .i64 (c:Nat))),(19,vl (.int .i64 (rqR l.bs).length)),(18,.a (.d (rqsD l.bs))),(4,.a (.d (wnD W))),(3,.a (.own 4 4 (afR (cvTo afO W l.ws l.bs x c 0)))),(0,.a (.ptr 0 0))],
  (4,.arr 79 4 (afR (cvTo afO W l.ws l.bs x c 0)).length)::lwH l s x all n us,5⟩) (fun c=>c≤l.bs.length) (fun c=>l.bs.length-c) 0
  (Wk.trans (Wk.own 3 4 79 4 rfl rfl (by decide)) Wk.go) (zL_ _) fun c hc=> ?_
 conv=>whnf
 refine bs (fun g0=> ?_) (fun g0=> ?_)
 ·conv=>whnf
  have hc':c<l.bs.length:=by simpa using g0
  obtain⟨b,hb'⟩:=at_some hc';have eb:l.bs.getD c 0=b:=getD_of hb';have zb:=hb.at hb';refine .mk (c) ((can b).D) (rfl) (at_rq hb') ?_;conv=>whnf
  conv=>whnf
  refine .mk Nat (fun j=>⟨[(27,vl (.int .i64 (j:Nat))),(26,vl (.int .i64 (wnR W).length)),(25,.a (.d (wnD W))),(5,vl (.int .i64 (c:Nat))),(6,.a (.ptr 5 0)),(20,vl (.int .i64 (c:Nat))),(19,vl (.int .i64 (rqR l.bs).length)),(18,.a (.d (rqsD l.bs))),(4,.a (.d (wnD W))),(3,.a (.own 4 4 (afR (cvTo afO W l.ws l.bs x c j)))),(0,.a (.ptr 0 0))],
   (5,.box 56 (can b).A)::(4,.arr 79 4 (afR (cvTo afO W l.ws l.bs x c j)).length)::lwH l s x all n us,6⟩) (fun j=>j≤W.length) (fun j=>W.length-j) 0
   Wk.go (zL_ _) fun j hj=> ?_
  conv=>whnf
  refine bs (fun g1=> ?_) (fun g1=> ?_)
  ·conv=>whnf
   have hj':j<W.length:=by simpa using g1
   obtain⟨w,hw'⟩:=at_some hj';have hwm:=mG_ hw';have hwlen:=hal w hwm;refine .mk (j) ([inD w]) (rfl) (at_wn hw') ?_;conv=>whnf
   conv=>whnf
   refine .c (lx_lnum) ?_;conv=>whnf
   refine .mk Nat (fun k=>⟨[(35,vl (.int .i64 (k:Nat))),(34,vl (.int .i64 (inR w).length)),(33,.a (.d (inD w))),(9,.a (.ptr 6 0)),(8,.a (.d (inD w))),(27,vl (.int .i64 (j:Nat))),(26,vl (.int .i64 (wnR W).length)),(25,.a (.d (wnD W))),(5,vl (.int .i64 (c:Nat))),(6,.a (.ptr 5 0)),(20,vl (.int .i64 (c:Nat))),(19,vl (.int .i64 (rqR l.bs).length)),(18,.a (.d (rqsD l.bs))),(4,.a (.d (wnD W))),(3,.a (.own 4 4 (afR (cvTo afO W l.ws l.bs x c j)))),(0,.a (.ptr 0 0))],
    (6,.box 79 (cvN afO l.ws (c*w.length) w x b k).A)::(5,.box 56 (can b).A)::(4,.arr 79 4 (afR (cvTo afO W l.ws l.bs x c j)).length)::lwH l s x all n us,7⟩) (fun k=>k≤w.length) (fun k=>w.length-k) 0
    Wk.go (zL_ _) fun k hk=> ?_
   have hd:=FLv.cvN (k:=k) hL (c*w.length) w hw hx zb (by omega);conv=>whnf
   refine bs (fun g2=> ?_) (fun g2=> ?_)
   ·conv=>whnf
    have hk':k<w.length:=by simpa using g2
    obtain⟨z,hz⟩:=at_some hk';obtain⟨z1,z2⟩:=hmb w hwm z (mG_ hz);have ez:w.getD k 0=z:=getD_of hz;refine .mk (k) ([D.lit (.int .i64 z)]) (rfl) (at_inR hz) ?_;conv=>whnf
    conv=>whnf
    refine bs (fun g3=> ?_) (fun g3=> ?_)
    ·conv=>whnf
     have hz0:0≤z:=of_decide_eq_true g3;obtain⟨zn,rfl⟩:∃n:Nat,z=n:=⟨z.toNat,by omega⟩;obtain⟨v,hv⟩:=at_some (l:=x) (i:=zn) (by omega);have hix:c*w.length+k<l.ws.length:=by
      rw[hwl,hwlen];have:=Nat.mul_le_mul_right m (show c+1≤l.bs.length from hc');rw[Nat.add_mul]at this;omega
     obtain⟨u,hu⟩:=at_some hix;have zv:=hx.at hv;have zu:=hw.at hu;have hm:c*w.length≤24*864:=Nat.mul_le_mul (by omega) (by omega);have ei:IntKind.i64.wrap (IntKind.i64.wrap ((c:Int)*((inR w).length:Int))+(k:Int))=((c*w.length+k:Nat):Int):=by
      rw[List.length_map,←Int.natCast_mul,wrN (n:=c*w.length) (by omega),←Int.natCast_add,wrN (by omega)]
     have es:cvN afO l.ws (c*w.length) w x b (k+1)=addS (cvN afO l.ws (c*w.length) w x b k) (scaleS v u):=by
      rw[cvN,ez,if_pos hz0,atO,Int.toNat_natCast,getD_of hv,getD_of hu];rfl
     have c1:=pl_scale (zv.fb (m:=e) hL (by omega) (by omega)) (zu.bt hL) h0 hN (by omega);have c2:=pl_add (hd.fb (m:=e+2) hL (by omega) (by omega)) ((zv.scale zu).fb (m:=e+2) hL (by omega) (by omega)) h0 hN (by omega);rw[←es]at c2;refine .mk (zn) (v.D) (rfl) (at_map hv) ?_;conv=>whnf
     conv=>whnf
     rw[ei];refine .mk ((c*w.length+k)) ((can u).D) (rfl) (at_rq hu) ?_;conv=>whnf
     conv=>whnf
     refine .c (c1) ?_;conv=>whnf
     refine .c (c2) ?_;conv=>whnf
     refine .mk (by kernel_rfl) ?_;conv=>whnf
     exact⟨k+1,Wk.go,hk',by omega⟩
    ·conv=>whnf
     have hz0:=of_decide_eq_false g3;exact⟨k+1,by rw[cvN,ez,if_neg hz0];exact Wk.go,hk',by omega⟩
   ·conv=>whnf
    have ek:k=w.length:=by simp at g2;omega
    subst ek;have hln:=cvTo_len afO W l.ws l.bs x c j;have hq:c*W.length≤24*900:=Nat.mul_le_mul (by omega) hWl;refine .mk (afR (cvTo afO W l.ws l.bs x c j++[cvN afO l.ws (c*w.length) w x b w.length])) rfl (by rw[afR,List.map_append];rfl) (by rw[afR,List.length_map,List.length_append];simp only[List.length_singleton];omega) ?_;conv=>whnf
    exact⟨j+1,by rw[cvTo_snoc afO W l.ws l.bs x c j hw',eb];exact Wk.go,hj',by omega⟩
  ·conv=>whnf
   have ej:j=W.length:=by simp at g1;omega
   subst ej;exact⟨c+1,by rw[cvTo_end];exact Wk.go,hc',by omega⟩
 ·conv=>whnf
  have ec:c=l.bs.length:=by simp at g0;omega
  subst ec;exact⟨_,_,⟨rfl,rfl⟩,by rw[cvTo_all];exact WkV.of WkA.own,rfl,⟨⟨_,rfl,wke_refl _,rfl⟩,⟨_,rfl,wke_refl _,rfl⟩,⟨_,rfl,wke_refl _,rfl⟩,⟨_,rfl,wke_refl _,rfl⟩,trivial⟩,rfl⟩
theorem lw_max1 {ly:Ly}{s:List Nat}{vs us:List Af}{all:List (List Af)}{n:Nat}{f:Af}:
  LX Tryz.prog 63 [.a (.ptr 0 0),.a (.d (afsD [f]))] (lwH ly s vs all n us) fun v H=>v= .agg f.A∧H=lwH ly s vs all n us:=by
 refine LX_run (m:=4) (n0:=4) mix Tryz.func63 rfl rfl rfl rfl ?_;conv=>whnf
 refine .mk (0) (f.D) (rfl) (rfl) ?_;conv=>whnf
 conv=>whnf
 exact⟨_,_,⟨rfl,rfl⟩,vR_ _,rfl,⟨⟨_,rfl,wke_refl _,rfl⟩,⟨_,rfl,wke_refl _,rfl⟩,⟨_,rfl,wke_refl _,rfl⟩,⟨_,rfl,wke_refl _,rfl⟩,trivial⟩,rfl⟩
theorem mxF_one {n k:Nat}{us l:List Af}{f:Af}(h:l=[f]):mxF n k us l=(us,f):=by
 subst h
 cases k with
 |zero=>rfl
 |succ k=>exact if_pos rfl
theorem lw_max {ly:Ly}{s:List Nat}{vs:List Af}{all:List (List Af)}{L E n:Nat}(hL:LOk L)(hE:E≤1000)(hn:n≤1000):∀(k e:Nat) (us l:List Af),1≤e→e+l.length≤E→1≤l.length→l.length≤k+1→us.length+l.length≤1000→UsOk L E n us→(∀f∈l,FLv L e e ((n+us.length:Nat):Int) f)→
  LX Tryz.prog 63 [.a (.ptr 0 0),.a (.d (afsD l))] (lwH ly s vs all n us) fun v H=>v= .agg (mxF n k us l).2.A∧H=lwH ly s vs all n (mxF n k us l).1
 |0,e,us,l,he,hle,h1,h2,hul,hu,hl=>by
  obtain⟨f,rfl⟩:∃f,l=[f]:=by match l,h1,h2 with|[f],_,_=>exact⟨f,rfl⟩
  rw[mxF_one rfl];exact lw_max1
 |k+1,e,us,l,he,hle,h1,h2,hul,hu,hl=>by
  by_cases h3:l.length=1
  ·obtain⟨f,rfl⟩:∃f,l=[f]:=by match l,h3 with|[f],_=>exact⟨f,rfl⟩
   rw[mxF_one rfl];exact lw_max1
  ·rw[mxF,if_neg h3];obtain⟨m,hm⟩:∃m,m=(l.length+1)/2:=⟨_,rfl⟩;rw[←hm];have m1:1≤m∧m+1≤l.length∧m≤k+1∧l.length-m≤k+1:=by omega
   have t1:(l.take m).length=m:=by rw[List.length_take];omega
   have t2:(l.drop m).length=l.length-m:=List.length_drop;have hA:=mxF_ok hL k e us (l.take m) he (by omega) (by omega) (by omega) hu fun f hf=>hl f (List.mem_of_mem_take hf);have cA:=lw_max (ly:=ly) (s:=s) (vs:=vs) (all:=all) hL hE hn k e us (l.take m) he (by omega) (by omega) (by omega) (by omega) hu fun f hf=>hl f (List.mem_of_mem_take hf);generalize mxF n k us (l.take m)=A at *
   obtain⟨uA,gA⟩:=A;obtain⟨⟨ea,e1,e2⟩,ua,fa,_⟩:=hA;simp only at e1 ua fa cA ⊢;have lA:uA.length=us.length+(m-1):=by rw[e1,List.length_append,e2,t1]
   have hl2:∀f∈l.drop m,FLv L e e ((n+uA.length:Nat):Int) f:=fun f hf=>(hl f (List.mem_of_mem_drop hf)).up hL (lR_ _) (by omega);have hB:=mxF_ok hL k e uA (l.drop m) he (by omega) (by omega) (by omega) ua hl2;have cB:=lw_max (ly:=ly) (s:=s) (vs:=vs) (all:=all) hL hE hn k e uA (l.drop m) he (by omega) (by omega) (by omega) (by omega) ua hl2;generalize mxF n k uA (l.drop m)=B at *
   obtain⟨uB,gB⟩:=B;obtain⟨⟨eb,e3,e4⟩,ub,fb,_⟩:=hB;simp only at e3 ub fb cB ⊢;have lB:uB.length=uA.length+(l.length-m-1):=by rw[e3,List.length_append,e4,t2]
   rw[t1]at fa;rw[t2]at fb;have fa':=fa.up (e':=E) (n':=n+(uB.length+1)) hL (by omega) (by omega);have fb':=fb.up (e':=E) (n':=n+(uB.length+1)) hL (by omega) (by omega);have c1:=pl_sub (fb'.fb (m:=E) hL (by omega) (by omega)) (fa'.fb (m:=E) hL (by omega) (by omega)) (by omega) (by omega) (by omega);have f2:FLv L E E ((n+(uB.length+1):Nat):Int) (varS ((n+uB.length:Nat):Int)):=FLv.var hL (Int.natCast_nonneg _) (Int.ofNat_lt.2 (by omega)) (by omega);have c2:=pl_add (fa'.fb (m:=E) hL (by omega) (by omega)) (f2.fb (m:=E) hL (by omega) (by omega)) (by omega) (by omega) (by omega);have cU:=lx_unit1 (f:=subS gB gA) (us:=uB) (n:=n) hn (by omega);refine LX_run (m:=4) (n0:=4) mix Tryz.func63 rfl rfl rfl rfl ?_;conv=>whnf
   refine bF (decide_eq_false (by simp;omega)) ?_;conv=>whnf
   have ew:IntKind.i64.wrap ((IntKind.i64.wrap (((l.map Af.D).length:Int)+1)).tdiv 2)=((m:Nat):Int):=by
    have e1:IntKind.i64.wrap (((l.map Af.D).length:Int)+1)=((l.length+1:Nat):Int):=by rw[List.length_map,wr64 (by omega) (by omega)];omega
    rw[e1,hm,Int.tdiv_eq_ediv_of_nonneg (by omega),show(2:Int)=((2:Nat):Int)from rfl,←Int.natCast_ediv,wrN (by omega)]
   rw[ew];refine .mk 0 m ((l.take m).map Af.D) rfl rfl (by omega) (by simp;omega) (by rw[List.drop_zero,List.map_take]) ?_;conv=>whnf
   refine Cn.lK [0,1,2,3] cA ?_;conv=>whnf
   refine .mk m l.length ((l.drop m).map Af.D) rfl (by simp) (by omega) (by simp) (by rw[List.take_of_length_le (by simp),List.map_drop]) ?_;conv=>whnf
   refine Cn.lK [0,1,2,3] cB ?_;conv=>whnf
   refine .c (c1) ?_;conv=>whnf
   refine Cn.lK [1,2] cU ?_;conv=>whnf
   refine .c (c2) ?_;conv=>whnf
   refine .mk (by kernel_rfl) ?_;conv=>whnf
   exact⟨_,_,⟨rfl,rfl⟩,vR_ _,rfl,⟨⟨_,rfl,wke_refl _,rfl⟩,⟨_,rfl,wke_refl _,rfl⟩,⟨_,rfl,wke_refl _,rfl⟩,⟨_,rfl,wke_refl _,rfl⟩,trivial⟩,rfl⟩
def fsG (φ:List Af→List Af→List Af×Af):List Af→List (List Af)→List Af×List Af
 |us,[]=>(us,[])
 |us,l::r=>((fsG φ (φ us l).1 r).1,(φ us l).2::(fsG φ (φ us l).1 r).2)
theorem fsG_snoc (φ:List Af→List Af→List Af×Af)(l:List Af):∀(ls:List (List Af)) (us:List Af),fsG φ us (ls++[l])=((φ (fsG φ us ls).1 l).1,(fsG φ us ls).2++[(φ (fsG φ us ls).1 l).2])
 |[],us=>rfl
 |y::ls,us=>by rw[List.cons_append,fsG,fsG_snoc φ l ls];rfl
theorem fsG_mxs (n:Nat):∀(ls:List (List Af)) (us:List Af),fsG (fun us l=>mxF n l.length us l) us ls=mxs n us ls
 |[],us=>rfl
 |y::ls,us=>by rw[fsG,fsG_mxs n ls,mxs]
theorem fsG_mean (us:List Af):∀(ls:List (List Af)),fsG (fun us l=>(us,meanG afO l)) us ls=(us,ls.map (meanG afO))
 |[]=>rfl
 |y::ls=>by rw[fsG,fsG_mean us ls];rfl
theorem fsG_len (φ:List Af→List Af→List Af×Af):∀(ls:List (List Af)) (us:List Af),(fsG φ us ls).2.length=ls.length
 |[],us=>rfl
 |y::ls,us=>by rw[fsG,List.length_cons,fsG_len φ ls,List.length_cons]
def pkF (W:List (List Int))(n:Nat)(x:List Af)(c j:Nat):List (List Af):=((List.range c).flatMap fun ch=>W.map fun w=>pick afO x n w ch)++(W.take j).map fun w=>pick afO x n w c
theorem pkF_end (W:List (List Int))(n:Nat)(x:List Af)(c:Nat):pkF W n x c W.length=pkF W n x (c+1) 0:=by
 unfold pkF;rw[range_fm_snoc,List.take_length,List.take_zero,List.map_nil,List.append_nil]
theorem pkF_snoc (W:List (List Int))(n:Nat)(x:List Af)(c j:Nat){w:List Int}(h:W[j]? =some w):pkF W n x c (j+1)=pkF W n x c j++[pick afO x n w c]:=by
 unfold pkF;rw[take_snoc h,List.map_append,←List.append_assoc];rfl
theorem pkF_all (W:List (List Int))(n:Nat)(x:List Af)(c:Nat):pkF W n x c 0=picks afO W c n x:=by
 unfold pkF picks;rw[List.take_zero,List.map_nil,List.append_nil]
theorem pkF_len (W:List (List Int))(n:Nat)(x:List Af)(c j:Nat):(pkF W n x c j).length≤c*W.length+j:=by
 unfold pkF;rw[List.length_append,fm_len (fun i=>List.length_map ..),List.length_map,List.length_take];omega
theorem pk_split (W:List (List Int))(n:Nat)(x:List Af){C c j:Nat}{w:List Int}(hc:c<C)(h:W[j]? =some w):∃r,pkF W n x c j++pick afO x n w c::r=picks afO W C n x:=by
 have h1:∀c',∃r,pkF W n x (c+1) 0++r=picks afO W (c+1+c') n x:=by
  intro c'
  induction c' with
  |zero=>exact⟨[],by rw[pkF_all,List.append_nil]⟩
  |succ c' ih=>
   obtain⟨r,hr⟩:=ih;refine⟨r++W.map fun w=>pick afO x n w (c+1+c'),?_⟩;rw[←List.append_assoc,hr,picks,show c+1+(c'+1)=c+1+c'+1 by omega,picks,range_fm_snoc]
 obtain⟨r,hr⟩:=h1 (C-(c+1));rw[show c+1+(C-(c+1))=C by omega,←pkF_end]at hr;have hj:=at_lt h;have h2:pkF W n x c W.length=pkF W n x c (j+1)++(W.drop (j+1)).map fun w=>pick afO x n w c:=by
  unfold pkF;rw[List.append_assoc,←List.map_append,List.take_append_drop,List.take_length]
 rw[h2,pkF_snoc W n x c j h]at hr;exact⟨(W.drop (j+1)).map (fun w=>pick afO x n w c)++r,by rw[←hr];simp only[List.append_assoc,List.singleton_append];rfl⟩
theorem lw_poolX {l:Ly}{s:List Nat}{x us:List Af}{all:List (List Af)}{n0 kh kw st pad:Nat}(P:Nat→Nat→List Af×List Af)(φ:List Af→List Af→List Af×Af)(hp:pad=0)
  (h1:l.kh=kh) (h2:l.kw=kw) (h3:l.st=st) (h4:l.pad=pad) (hs:s.length=3) (ok:(winS s kh kw st pad).Ok) (hn:x.length=szS s)
  (hP0:P 0 0=(us,[])) (hPe:∀c,P (c+1) 0=P c (winS s kh kw st pad).all.length)
  (hPs:∀c j w,c<s.getD 0 0→(winS s kh kw st pad).all[j]? =some w→P c (j+1)=((φ (P c j).1 (pick afO x (kh*kw) w c)).1,(P c j).2++[(φ (P c j).1 (pick afO x (kh*kw) w c)).2]))
  (hPl:∀c j,(P c j).2.length≤c*(winS s kh kw st pad).all.length+j)
  (hF:∀c j w,c<s.getD 0 0→(winS s kh kw st pad).all[j]? =some w→LX Tryz.prog 63 [.a (.ptr 0 0),.a (.d (afsD (pick afO x (kh*kw) w c)))] (lwH l s x all n0 (P c j).1) fun v H=>v= .agg (φ (P c j).1 (pick afO x (kh*kw) w c)).2.A∧H=lwH l s x all n0 (φ (P c j).1 (pick afO x (kh*kw) w c)).1):
  LX Tryz.prog 62 [.a (.ptr 0 0),.a (.fn (.func 63) [.ptr 0 0] [])] (lwH l s x all n0 us) fun v H=>v= .a (.d (afsD (P (s.getD 0 0) 0).2))∧H=lwH l s x all n0 (P (s.getD 0 0) 0).1:=by
 have hwin:=lw_windows (l:=l) (vs:=x) (us:=us) (all:=all) (n:=n0) h1 h2 h3 h4 hs ok;obtain⟨lk,lf,lo,lkh,lkw,lst,lpad,lws,lbs⟩:=l;simp only at h1 h2 h3 h4;subst h1 h2 h3 h4;have bd:=ok.bd;have hal:∀w∈(winS s kh kw st pad).all,w.length=s.getD 0 0*(kh*kw):=fun w h=>Wn.all_len h
 have hmb:∀w∈(winS s kh kw st pad).all,∀z∈w,0≤z∧z<(x.length:Int):=fun w h z hz=>by
  have:=Wn.mem_b h hz;rw[hn,len3 hs,szS3];exact⟨Wn.mem_nn hp ok h hz,this.2⟩
 have hc24:s.getD 0 0≤24:=bd.c;have hkk:kh*kw≤36:=ok.n.2;have hWl:(winS s kh kw st pad).all.length≤900:=by rw[Wn.all_ln];exact bd.p1
 have hk6:kh≤6∧kw≤6:=⟨ok.kh.2,ok.kw.2⟩;have hs0:s[0]? =some (s.getD 0 0):=by rw[len3 hs];rfl
 generalize (winS s kh kw st pad).all=W at *
 generalize hC:s.getD 0 0=C at *
 have ekk:IntKind.i64.wrap ((kh:Int)*(kw:Int))=((kh*kw:Nat):Int):=by rw[←Int.natCast_mul,wrN (by omega)]
 generalize hN:kh*kw=n at *
 refine LX_run (m:=4) (n0:=4) mix Tryz.func62 rfl rfl rfl rfl ?_;conv=>whnf
 refine Cn.lK [0,1,2,3] hwin ?_;conv=>whnf
 rw[ekk];refine .mk (by kernel_rfl) ?_;conv=>whnf
 refine .mk (0) ([D.lit (.int .i64 (C:Nat))]) (rfl) (at_nI hs0) ?_;conv=>whnf
 conv=>whnf
 refine .mk Nat (fun c=>⟨[(33,vl (.int .i64 (c:Nat))),(32,vl (.int .i64 (C:Nat))),(7,vl (.int .i64 (n:Nat))),(6,.a (.d (wnD W))),(1,.a (.fn (.func 63) [.ptr 0 0] [])),(5,.a (.own 4 4 (afR (P c 0).2))),(0,.a (.ptr 0 0))],
  (4,.arr 79 4 (afR (P c 0).2).length)::lwH ⟨lk,lf,lo,kh,kw,st,pad,lws,lbs⟩ s x all n0 (P c 0).1,5⟩) (fun c=>c≤C) (fun c=>C-c) 0
  (by rw[hP0];exact Wk.trans (Wk.own 5 4 79 4 rfl rfl (by decide)) Wk.go) (zL_ _) fun c hc=> ?_
 conv=>whnf
 refine bs (fun g0=> ?_) (fun g0=> ?_)
 ·conv=>whnf
  have hc':c<C:=by simpa using g0
  refine .mk Nat (fun j=>⟨[(38,vl (.int .i64 (j:Nat))),(37,vl (.int .i64 (wnR W).length)),(36,.a (.d (wnD W))),(8,vl (.int .i64 (c:Nat))),(33,vl (.int .i64 (c:Nat))),(32,vl (.int .i64 (C:Nat))),(7,vl (.int .i64 (n:Nat))),(6,.a (.d (wnD W))),(1,.a (.fn (.func 63) [.ptr 0 0] [])),(5,.a (.own 4 4 (afR (P c j).2))),(0,.a (.ptr 0 0))],
   (4,.arr 79 4 (afR (P c j).2).length)::lwH ⟨lk,lf,lo,kh,kw,st,pad,lws,lbs⟩ s x all n0 (P c j).1,5⟩) (fun j=>j≤W.length) (fun j=>W.length-j) 0
   Wk.go (zL_ _) fun j hj=> ?_
  conv=>whnf
  refine bs (fun g1=> ?_) (fun g1=> ?_)
  ·conv=>whnf
   have hj':j<W.length:=by simpa using g1
   obtain⟨w,hw'⟩:=at_some hj';have hwm:=mG_ hw';have hwlen:=hal w hwm;have b0:(c+1)*n≤C*n:=Nat.mul_le_mul_right _ hc';have b1:c*n≤(c+1)*n:=Nat.mul_le_mul_right _ (by omega);have b2:C*n≤24*36:=Nat.mul_le_mul hc24 hkk;have e1:IntKind.i64.wrap ((c:Int)*(n:Int))=((c*n:Nat):Int):=by rw[←Int.natCast_mul,wrN (by omega)]
   have e2:IntKind.i64.wrap ((c:Int)+1)=((c+1:Nat):Int):=by rw[wr64 (by omega) (by omega)];omega
   have e3:IntKind.i64.wrap (((c+1:Nat):Int)*(n:Int))=(((c+1)*n:Nat):Int):=by rw[←Int.natCast_mul,wrN (by omega)]
   have hcall:=hF c j w hc' hw';have hstep:=hPs c j w hc' hw';have hln:=hPl c j;have hq:c*W.length≤24*900:=Nat.mul_le_mul (by omega) hWl;obtain⟨zs,hzs⟩:∃zs,zs=(w.take ((c+1)*n)).drop (c*n):=⟨_,rfl⟩;have hzl:zs.length≤900:=by rw[hzs,List.length_drop,List.length_take];omega
   have hzm:∀z∈zs,0≤z∧z<(x.length:Int):=fun z hz=>hmb w hwm z (List.mem_of_mem_take (List.mem_of_mem_drop (hzs▸hz)));have hpk:pick afO x n w c=zs.map fun i=>atO afO x i.toNat:=by rw[hzs];rfl
   refine .mk (j) ([inD w]) (rfl) (at_wn hw') ?_;conv=>whnf
   conv=>whnf
   rw[e1,e2,e3];refine .mk (c*n) ((c+1)*n) (inR zs) rfl rfl (by omega) (by rw[List.length_map];omega) (by rw[hzs,inR,inR,List.map_drop,List.map_take]) ?_;conv=>whnf
   refine .mk Nat (fun k=>⟨[(52,vl (.int .i64 (k:Nat))),(51,vl (.int .i64 (inR zs).length)),(50,.a (.d (inD zs))),(11,.a (.own 5 4 (afR ((zs.take k).map fun i=>atO afO x i.toNat)))),(38,vl (.int .i64 (j:Nat))),(37,vl (.int .i64 (wnR W).length)),(36,.a (.d (wnD W))),(8,vl (.int .i64 (c:Nat))),(33,vl (.int .i64 (c:Nat))),(32,vl (.int .i64 (C:Nat))),(7,vl (.int .i64 (n:Nat))),(6,.a (.d (wnD W))),(1,.a (.fn (.func 63) [.ptr 0 0] [])),(5,.a (.own 4 4 (afR (P c j).2))),(0,.a (.ptr 0 0))],
    (5,.arr 79 4 (afR ((zs.take k).map fun i=>atO afO x i.toNat)).length)::(4,.arr 79 4 (afR (P c j).2).length)::lwH ⟨lk,lf,lo,kh,kw,st,pad,lws,lbs⟩ s x all n0 (P c j).1,6⟩) (fun k=>k≤zs.length) (fun k=>zs.length-k) 0
    (Wk.trans (Wk.own 11 5 79 4 rfl rfl (by decide)) Wk.go) (zL_ _) fun k hk=> ?_
   conv=>whnf
   refine bs (fun g2=> ?_) (fun g2=> ?_)
   ·conv=>whnf
    have hk':k<zs.length:=by simpa using g2
    obtain⟨z,hz⟩:=at_some hk';obtain⟨z1,z2⟩:=hzm z (mG_ hz);obtain⟨v,hv⟩:=at_some (l:=x) (i:=z.toNat) (by omega);have es:afR ((zs.take (k+1)).map fun i=>atO afO x i.toNat)=afR ((zs.take k).map fun i=>atO afO x i.toNat)++[v.D]:=by
     rw[take_snoc hz,List.map_append,afR,List.map_append,List.map_cons,List.map_nil,atO,getD_of hv];rfl
    refine .mk (k) ([D.lit (.int .i64 z)]) (rfl) (at_inR hz) ?_;conv=>whnf
    conv=>whnf
    refine .mk (z.toNat) (v.D) (by rw[Int.toNat_of_nonneg z1]) (at_map hv) ?_;conv=>whnf
    conv=>whnf
    refine .mk (afR ((zs.take (k+1)).map fun i=>atO afO x i.toNat)) rfl es (by rw[afR,List.length_map,List.length_map,List.length_take];omega) ?_;conv=>whnf
    exact⟨k+1,Wk.go,hk',by omega⟩
   ·conv=>whnf
    have ek:k=zs.length:=by simp at g2;omega
    subst ek;rw[List.take_length,←hpk];refine Cn.lK [0,1,2,3] hcall ?_;conv=>whnf
    refine .mk (afR ((P c j).2++[(φ (P c j).1 (pick afO x n w c)).2])) rfl (by rw[afR,List.map_append];rfl) (by rw[afR,List.length_map,List.length_append];simp only[List.length_singleton];omega) ?_;conv=>whnf
    exact⟨j+1,by rw[hstep];exact Wk.go,hj',by omega⟩
  ·conv=>whnf
   have ej:j=W.length:=by simp at g1;omega
   subst ej;exact⟨c+1,by rw[hPe];exact Wk.go,hc',by omega⟩
 ·conv=>whnf
  have ec:c=C:=by simp at g0;omega
  subst ec;exact⟨_,_,⟨rfl,rfl⟩,WkV.of WkA.own,rfl,⟨⟨_,rfl,wke_refl _,rfl⟩,⟨_,rfl,wke_refl _,rfl⟩,⟨_,rfl,wke_refl _,rfl⟩,⟨_,rfl,wke_refl _,rfl⟩,trivial⟩,rfl⟩
theorem lw_poolM {l:Ly}{s:List Nat}{x us:List Af}{all:List (List Af)}{n0 kh kw st pad:Nat}(P:Nat→Nat→List Af×List Af)(φ:List Af→List Af→List Af×Af)(hp:pad=0)
  (h1:l.kh=kh) (h2:l.kw=kw) (h3:l.st=st) (h4:l.pad=pad) (hs:s.length=3) (ok:(winS s kh kw st pad).Ok) (hn:x.length=szS s)
  (hP0:P 0 0=(us,[])) (hPe:∀c,P (c+1) 0=P c (winS s kh kw st pad).all.length)
  (hPs:∀c j w,c<s.getD 0 0→(winS s kh kw st pad).all[j]? =some w→P c (j+1)=((φ (P c j).1 (pick afO x (kh*kw) w c)).1,(P c j).2++[(φ (P c j).1 (pick afO x (kh*kw) w c)).2]))
  (hPl:∀c j,(P c j).2.length≤c*(winS s kh kw st pad).all.length+j)
  (hF:∀c j w,c<s.getD 0 0→(winS s kh kw st pad).all[j]? =some w→LV Tryz.prog 64 [.a (.d (afsD (pick afO x (kh*kw) w c)))] (.agg (φ (P c j).1 (pick afO x (kh*kw) w c)).2.A)∧(φ (P c j).1 (pick afO x (kh*kw) w c)).1=(P c j).1):
  LX Tryz.prog 62 [.a (.ptr 0 0),.a (.fn (.func 64) [] [])] (lwH l s x all n0 us) fun v H=>v= .a (.d (afsD (P (s.getD 0 0) 0).2))∧H=lwH l s x all n0 (P (s.getD 0 0) 0).1:=by
 have hwin:=lw_windows (l:=l) (vs:=x) (us:=us) (all:=all) (n:=n0) h1 h2 h3 h4 hs ok;obtain⟨lk,lf,lo,lkh,lkw,lst,lpad,lws,lbs⟩:=l;simp only at h1 h2 h3 h4;subst h1 h2 h3 h4;have bd:=ok.bd;have hal:∀w∈(winS s kh kw st pad).all,w.length=s.getD 0 0*(kh*kw):=fun w h=>Wn.all_len h
 have hmb:∀w∈(winS s kh kw st pad).all,∀z∈w,0≤z∧z<(x.length:Int):=fun w h z hz=>by
  have:=Wn.mem_b h hz;rw[hn,len3 hs,szS3];exact⟨Wn.mem_nn hp ok h hz,this.2⟩
 have hc24:s.getD 0 0≤24:=bd.c;have hkk:kh*kw≤36:=ok.n.2;have hWl:(winS s kh kw st pad).all.length≤900:=by rw[Wn.all_ln];exact bd.p1
 have hk6:kh≤6∧kw≤6:=⟨ok.kh.2,ok.kw.2⟩;have hs0:s[0]? =some (s.getD 0 0):=by rw[len3 hs];rfl
 generalize (winS s kh kw st pad).all=W at *
 generalize hC:s.getD 0 0=C at *
 have ekk:IntKind.i64.wrap ((kh:Int)*(kw:Int))=((kh*kw:Nat):Int):=by rw[←Int.natCast_mul,wrN (by omega)]
 generalize hN:kh*kw=n at *
 refine LX_run (m:=4) (n0:=4) mix Tryz.func62 rfl rfl rfl rfl ?_;conv=>whnf
 refine Cn.lK [0,1,2,3] hwin ?_;conv=>whnf
 rw[ekk];refine .mk (by kernel_rfl) ?_;conv=>whnf
 refine .mk (0) ([D.lit (.int .i64 (C:Nat))]) (rfl) (at_nI hs0) ?_;conv=>whnf
 conv=>whnf
 refine .mk Nat (fun c=>⟨[(33,vl (.int .i64 (c:Nat))),(32,vl (.int .i64 (C:Nat))),(7,vl (.int .i64 (n:Nat))),(6,.a (.d (wnD W))),(1,.a (.fn (.func 64) [] [])),(5,.a (.own 4 4 (afR (P c 0).2))),(0,.a (.ptr 0 0))],
  (4,.arr 79 4 (afR (P c 0).2).length)::lwH ⟨lk,lf,lo,kh,kw,st,pad,lws,lbs⟩ s x all n0 (P c 0).1,5⟩) (fun c=>c≤C) (fun c=>C-c) 0
  (by rw[hP0];exact Wk.trans (Wk.own 5 4 79 4 rfl rfl (by decide)) Wk.go) (zL_ _) fun c hc=> ?_
 conv=>whnf
 refine bs (fun g0=> ?_) (fun g0=> ?_)
 ·conv=>whnf
  have hc':c<C:=by simpa using g0
  refine .mk Nat (fun j=>⟨[(38,vl (.int .i64 (j:Nat))),(37,vl (.int .i64 (wnR W).length)),(36,.a (.d (wnD W))),(8,vl (.int .i64 (c:Nat))),(33,vl (.int .i64 (c:Nat))),(32,vl (.int .i64 (C:Nat))),(7,vl (.int .i64 (n:Nat))),(6,.a (.d (wnD W))),(1,.a (.fn (.func 64) [] [])),(5,.a (.own 4 4 (afR (P c j).2))),(0,.a (.ptr 0 0))],
   (4,.arr 79 4 (afR (P c j).2).length)::lwH ⟨lk,lf,lo,kh,kw,st,pad,lws,lbs⟩ s x all n0 (P c j).1,5⟩) (fun j=>j≤W.length) (fun j=>W.length-j) 0
   Wk.go (zL_ _) fun j hj=> ?_
  conv=>whnf
  refine bs (fun g1=> ?_) (fun g1=> ?_)
  ·conv=>whnf
   have hj':j<W.length:=by simpa using g1
   obtain⟨w,hw'⟩:=at_some hj';have hwm:=mG_ hw';have hwlen:=hal w hwm;have b0:(c+1)*n≤C*n:=Nat.mul_le_mul_right _ hc';have b1:c*n≤(c+1)*n:=Nat.mul_le_mul_right _ (by omega);have b2:C*n≤24*36:=Nat.mul_le_mul hc24 hkk;have e1:IntKind.i64.wrap ((c:Int)*(n:Int))=((c*n:Nat):Int):=by rw[←Int.natCast_mul,wrN (by omega)]
   have e2:IntKind.i64.wrap ((c:Int)+1)=((c+1:Nat):Int):=by rw[wr64 (by omega) (by omega)];omega
   have e3:IntKind.i64.wrap (((c+1:Nat):Int)*(n:Int))=(((c+1)*n:Nat):Int):=by rw[←Int.natCast_mul,wrN (by omega)]
   have hcall:=hF c j w hc' hw';have hstep:=hPs c j w hc' hw';have hln:=hPl c j;have hq:c*W.length≤24*900:=Nat.mul_le_mul (by omega) hWl;obtain⟨zs,hzs⟩:∃zs,zs=(w.take ((c+1)*n)).drop (c*n):=⟨_,rfl⟩;have hzl:zs.length≤900:=by rw[hzs,List.length_drop,List.length_take];omega
   have hzm:∀z∈zs,0≤z∧z<(x.length:Int):=fun z hz=>hmb w hwm z (List.mem_of_mem_take (List.mem_of_mem_drop (hzs▸hz)));have hpk:pick afO x n w c=zs.map fun i=>atO afO x i.toNat:=by rw[hzs];rfl
   refine .mk (j) ([inD w]) (rfl) (at_wn hw') ?_;conv=>whnf
   conv=>whnf
   rw[e1,e2,e3];refine .mk (c*n) ((c+1)*n) (inR zs) rfl rfl (by omega) (by rw[List.length_map];omega) (by rw[hzs,inR,inR,List.map_drop,List.map_take]) ?_;conv=>whnf
   refine .mk Nat (fun k=>⟨[(52,vl (.int .i64 (k:Nat))),(51,vl (.int .i64 (inR zs).length)),(50,.a (.d (inD zs))),(11,.a (.own 5 4 (afR ((zs.take k).map fun i=>atO afO x i.toNat)))),(38,vl (.int .i64 (j:Nat))),(37,vl (.int .i64 (wnR W).length)),(36,.a (.d (wnD W))),(8,vl (.int .i64 (c:Nat))),(33,vl (.int .i64 (c:Nat))),(32,vl (.int .i64 (C:Nat))),(7,vl (.int .i64 (n:Nat))),(6,.a (.d (wnD W))),(1,.a (.fn (.func 64) [] [])),(5,.a (.own 4 4 (afR (P c j).2))),(0,.a (.ptr 0 0))],
    (5,.arr 79 4 (afR ((zs.take k).map fun i=>atO afO x i.toNat)).length)::(4,.arr 79 4 (afR (P c j).2).length)::lwH ⟨lk,lf,lo,kh,kw,st,pad,lws,lbs⟩ s x all n0 (P c j).1,6⟩) (fun k=>k≤zs.length) (fun k=>zs.length-k) 0
    (Wk.trans (Wk.own 11 5 79 4 rfl rfl (by decide)) Wk.go) (zL_ _) fun k hk=> ?_
   conv=>whnf
   refine bs (fun g2=> ?_) (fun g2=> ?_)
   ·conv=>whnf
    have hk':k<zs.length:=by simpa using g2
    obtain⟨z,hz⟩:=at_some hk';obtain⟨z1,z2⟩:=hzm z (mG_ hz);obtain⟨v,hv⟩:=at_some (l:=x) (i:=z.toNat) (by omega);have es:afR ((zs.take (k+1)).map fun i=>atO afO x i.toNat)=afR ((zs.take k).map fun i=>atO afO x i.toNat)++[v.D]:=by
     rw[take_snoc hz,List.map_append,afR,List.map_append,List.map_cons,List.map_nil,atO,getD_of hv];rfl
    refine .mk (k) ([D.lit (.int .i64 z)]) (rfl) (at_inR hz) ?_;conv=>whnf
    conv=>whnf
    refine .mk (z.toNat) (v.D) (by rw[Int.toNat_of_nonneg z1]) (at_map hv) ?_;conv=>whnf
    conv=>whnf
    refine .mk (afR ((zs.take (k+1)).map fun i=>atO afO x i.toNat)) rfl es (by rw[afR,List.length_map,List.length_map,List.length_take];omega) ?_;conv=>whnf
    exact⟨k+1,Wk.go,hk',by omega⟩
   ·conv=>whnf
    have ek:k=zs.length:=by simp at g2;omega
    subst ek;rw[List.take_length,←hpk];refine Cn.c hcall.1 ?_;conv=>whnf
    refine .mk (afR ((P c j).2++[(φ (P c j).1 (pick afO x n w c)).2])) rfl (by rw[afR,List.map_append];rfl) (by rw[afR,List.length_map,List.length_append];simp only[List.length_singleton];omega) ?_;conv=>whnf
    exact⟨j+1,by rw[hstep,hcall.2];exact Wk.go,hj',by omega⟩
  ·conv=>whnf
   have ej:j=W.length:=by simp at g1;omega
   subst ej;exact⟨c+1,by rw[hPe];exact Wk.go,hc',by omega⟩
 ·conv=>whnf
  have ec:c=C:=by simp at g0;omega
  subst ec;exact⟨_,_,⟨rfl,rfl⟩,WkV.of WkA.own,rfl,⟨⟨_,rfl,wke_refl _,rfl⟩,⟨_,rfl,wke_refl _,rfl⟩,⟨_,rfl,wke_refl _,rfl⟩,⟨_,rfl,wke_refl _,rfl⟩,trivial⟩,rfl⟩
structure LoH (L e E n:Nat)(lay:Lay)(s:List Nat)(us:List Af)(all:List (List Af))(x:List Af):Prop where
 lo:LvO L lay
 e1:1≤e
 eE:e+40≤E
 E9:E≤900
 s24:szS s≤24
 o24:szS (outS lay s)≤24
 fit:∃i ss,Fit lay i ss s
 xl:x.length=szS s
 uo:UsOk L E n us
 xf:∀f∈x,FLv L e e ((n+us.length:Nat):Int) f
 af:∀y∈all,∀f∈y,FLv L e e ((n+us.length:Nat):Int) f
 add:∀fr,lay= .add fr→ -1≤fr∧(fr+1).toNat<all.length∧(all.getD (fr+1).toNat []).length=x.length
 n24:n≤24
 ul:us.length≤20
theorem sum_le {α:Type}(f:α→Nat)(k:Nat):∀(l:List α),(∀a∈l,f a≤k)→(l.map f).sum≤l.length*k
 |[],_=>by simp
 |a::l,h=>by
  have:=sum_le f k l fun b hb=>h b (List.mem_cons_of_mem _ hb);have:=h a List.mem_cons_self;rw[List.map_cons,List.sum_cons,List.length_cons,Nat.add_mul];omega
theorem lw_relu {ly:Ly}{s:List Nat}{us x:List Af}{all:List (List Af)}{n:Nat}(hk:ly.kind=5)(hn:n≤24)(hu:us.length≤20)(hx:x.length≤24):
  LX Tryz.prog 31 [.a (.ptr 0 0)] (lwH ly s x all n us) fun v H=>v= .a (.d (afsD ((List.range x.length).map fun j=>varS ((n+(us.length+j):Nat):Int))))∧H=lwH ly s x all n (us++x):=by
 obtain⟨lk,lf,lo,lkh,lkw,lst,lpad,lws,lbs⟩:=ly;simp only at hk;subst hk;refine LX_run (m:=4) (n0:=4) mix Tryz.func31 rfl rfl rfl rfl ?_;conv=>whnf
 refine .mk Nat (fun i=>⟨[(38,vl (.int .i64 (i:Nat))),(37,vl (.int .i64 (x.map Af.D).length)),(36,.a (.d (afsD x))),(3,.a (.own 4 4 (afR ((List.range i).map fun j=>varS ((n+(us.length+j):Nat):Int))))),(0,.a (.ptr 0 0))],
  (4,.arr 79 4 (afR ((List.range i).map fun j=>varS ((n+(us.length+j):Nat):Int))).length)::lwH ⟨5,lf,lo,lkh,lkw,lst,lpad,lws,lbs⟩ s x all n (us++x.take i),5⟩) (fun i=>i≤x.length) (fun i=>x.length-i) 0
  (by rw[List.take_zero,List.append_nil];exact Wk.trans (Wk.own 3 4 79 4 rfl rfl (by decide)) Wk.go) (zL_ _) fun i hi=> ?_
 conv=>whnf
 refine bs (fun g0=> ?_) (fun g0=> ?_)
 ·conv=>whnf
  have hi':i<x.length:=by simpa using g0
  obtain⟨f,hf⟩:=at_some hi';have cU:=lx_unit1 (f:=f) (us:=us++x.take i) (n:=n) (by omega) (by simp;omega);have el:(us++x.take i).length=us.length+i:=by rw[List.length_append,List.length_take];omega
  have eu:us++x.take i++[f]=us++x.take (i+1):=by rw[take_snoc hf,List.append_assoc]
  rw[el,eu]at cU;refine .mk (i) (f.D) (rfl) (at_map hf) ?_;conv=>whnf
  conv=>whnf
  refine Cn.lK [1,2] cU ?_;conv=>whnf
  refine .mk (afR ((List.range (i+1)).map fun j=>varS ((n+(us.length+j):Nat):Int))) rfl (by rw[range_map_snoc,afR,List.map_append];rfl) (by simp;omega) ?_;conv=>whnf
  refine .mk (by kernel_rfl) ?_;conv=>whnf
  exact⟨i+1,Wk.go,hi',by omega⟩
 ·conv=>whnf
  have ei:i=x.length:=by simp at g0;omega
  subst ei;rw[List.take_length];exact⟨_,_,⟨rfl,rfl⟩,WkV.of WkA.own,rfl,⟨⟨_,rfl,wke_refl _,rfl⟩,⟨_,rfl,wke_refl _,rfl⟩,⟨_,rfl,wke_refl _,rfl⟩,⟨_,rfl,wke_refl _,rfl⟩,trivial⟩,rfl⟩
theorem at_al {all:List (List Af)}{i:Nat}{y:List Af}(h:all[i]? =some y):(alR all)[i]? =some [afsD y]:=at_map (f:=fun y=>[afsD y]) h
theorem lw_add {ly:Ly}{s:List Nat}{us x y:List Af}{all:List (List Af)}{L e n:Nat}{N:Int}(hk:ly.kind=7)(hL:LOk L)(he:e≤1000)(h0:0≤N)(hN:N≤100000)(hx:Fl L e N x)(hy:Fl L e N y)(h1: -1≤ly.fr)(h2:all[(ly.fr+1).toNat]? =some y)(hl:y.length=x.length)(hxl:x.length≤24)(hal:all.length≤100):
  LX Tryz.prog 31 [.a (.ptr 0 0)] (lwH ly s x all n us) fun v H=>v= .a (.d (afsD (addG afO x y)))∧H=lwH ly s x all n us:=by
 have hlt:=at_lt h2;obtain⟨lk,lf,lo,lkh,lkw,lst,lpad,lws,lbs⟩:=ly;simp only at hk h1 h2 hlt;subst hk;have ew:IntKind.i64.wrap (lf+1)=(((lf+1).toNat:Nat):Int):=by rw[Int.toNat_of_nonneg (by omega),wr64 (by omega) (by omega)]
 refine LX_run (m:=4) (n0:=4) mix Tryz.func31 rfl rfl rfl rfl ?_;conv=>whnf
 refine .mk ((lf+1).toNat) ([afsD y]) (ew) (at_al h2) ?_;conv=>whnf
 conv=>whnf
 refine .mk (by kernel_rfl) ?_;conv=>whnf
 refine .mk Nat (fun i=>⟨[(68,vl (.int .i64 (i:Nat))),(67,vl (.int .i64 (y.map Af.D).length)),(66,.a (.d (afsD y))),(3,.a (.own 4 4 (afR ((List.range i).map fun i=>afO.add (atO afO x i) (atO afO y i))))),(0,.a (.ptr 0 0))],
  (4,.arr 79 4 (afR ((List.range i).map fun i=>afO.add (atO afO x i) (atO afO y i))).length)::lwH ⟨7,lf,lo,lkh,lkw,lst,lpad,lws,lbs⟩ s x all n us,5⟩) (fun i=>i≤y.length) (fun i=>y.length-i) 0
  (Wk.trans (Wk.own 3 4 79 4 rfl rfl (by decide)) Wk.go) (zL_ _) fun i hi=> ?_
 conv=>whnf
 refine bs (fun g0=> ?_) (fun g0=> ?_)
 ·conv=>whnf
  have hi':i<y.length:=by simpa using g0
  obtain⟨g,hg⟩:=at_some hi';obtain⟨f,hf⟩:=at_some (l:=x) (i:=i) (by omega);have c2:=pl_add ((hx.at hf).fb (m:=e) hL (by omega) (by omega)) ((hy.at hg).fb (m:=e) hL (by omega) (by omega)) h0 hN (by omega);have es:afR ((List.range (i+1)).map fun i=>afO.add (atO afO x i) (atO afO y i))=afR ((List.range i).map fun i=>afO.add (atO afO x i) (atO afO y i))++[(addS f g).D]:=by
   rw[range_map_snoc,afR,List.map_append,List.map_cons,List.map_nil,atO,atO,getD_of hf,getD_of hg];rfl
  refine .mk (i) (g.D) (rfl) (at_map hg) ?_;conv=>whnf
  conv=>whnf
  refine .mk (i) (f.D) (rfl) (at_map hf) ?_;conv=>whnf
  conv=>whnf
  refine .c (c2) ?_;conv=>whnf
  refine .mk (afR ((List.range (i+1)).map fun i=>afO.add (atO afO x i) (atO afO y i))) rfl es (by simp;omega) ?_;conv=>whnf
  refine .mk (by kernel_rfl) ?_;conv=>whnf
  exact⟨i+1,Wk.go,hi',by omega⟩
 ·conv=>whnf
  have ei:i=x.length:=by simp at g0;omega
  subst ei;exact⟨_,_,⟨rfl,rfl⟩,WkV.of WkA.own,rfl,⟨⟨_,rfl,wke_refl _,rfl⟩,⟨_,rfl,wke_refl _,rfl⟩,⟨_,rfl,wke_refl _,rfl⟩,⟨_,rfl,wke_refl _,rfl⟩,trivial⟩,rfl⟩
theorem lw_out {L e E n:Nat}{lay:Lay}{s:List Nat}{us x:List Af}{all:List (List Af)}(h:LoH L e E n lay s us all x)(hal:all.length≤100):
  LX Tryz.prog 31 [.a (.ptr 0 0)] (lwH (Lay.ly lay) s x all n us) fun v H=>v= .a (.d (afsD (lowL lay s n us all x).2))∧H=lwH (Lay.ly lay) s x all n (lowL lay s n us all x).1:=by
 obtain⟨lo,he,hE,h9,hs,ho,⟨i,ss,hf⟩,hxl,hu,hx,ha,hadd,hn,hul⟩:=h;have hL:=lo.ok
 cases lay with
 |dense ws bs=>
  have hb:bs.length≤24:=by simpa [outS,szS1]using ho
  have c:=lw_dense (l:=Lay.ly (.dense ws bs)) (s:=s) (all:=all) (us:=us) (n:=n) hL (by omega) (by omega) (by omega) hx (fun q hq=>lo.par q (List.mem_append_left _ hq)) (fun q hq=>lo.par q (List.mem_append_right _ hq)) (by omega) hb (by rw[hxl];exact hf.2);refine LX_run (m:=4) (n0:=4) mix Tryz.func31 rfl rfl rfl rfl ?_;conv=>whnf
  refine Cn.lK [0,1,2,3] c ?_;conv=>whnf
  exact⟨_,_,⟨rfl,rfl⟩,vR_ _,rfl,⟨⟨_,rfl,wke_refl _,rfl⟩,⟨_,rfl,wke_refl _,rfl⟩,⟨_,rfl,wke_refl _,rfl⟩,⟨_,rfl,wke_refl _,rfl⟩,trivial⟩,rfl⟩
 |conv kh kw st pad ws bs=>
  have hb:bs.length≤24:=by
   have bd:=hf.1.bd;simp only[outS,szS3]at ho;exact tL_ (tL_ (Nat.le_mul_of_pos_right _ bd.r1) (Nat.le_mul_of_pos_right _ bd.q1)) ho
  have c:=lw_conv (l:=Lay.ly (.conv kh kw st pad ws bs)) (s:=s) (all:=all) (us:=us) (n:=n) hL (by omega) (by omega) (by omega) hx (fun q hq=>lo.par q (List.mem_append_left _ hq)) (fun q hq=>lo.par q (List.mem_append_right _ hq)) hb rfl rfl rfl rfl hf.2.1 hf.1 hxl hf.2.2.2;refine LX_run (m:=4) (n0:=4) mix Tryz.func31 rfl rfl rfl rfl ?_;conv=>whnf
  refine Cn.lK [0,1,2,3] c ?_;conv=>whnf
  exact⟨_,_,⟨rfl,rfl⟩,vR_ _,rfl,⟨⟨_,rfl,wke_refl _,rfl⟩,⟨_,rfl,wke_refl _,rfl⟩,⟨_,rfl,wke_refl _,rfl⟩,⟨_,rfl,wke_refl _,rfl⟩,trivial⟩,rfl⟩
 |mx kh kw st=>
  have b1:1≤kh*kw:=hf.1.n.1;have b2:kh*kw≤36:=hf.1.n.2
  have hpl:∀y∈picks afO (winS s kh kw st 0).all (s.getD 0 0) (kh*kw) x,y.length=kh*kw∧∀f∈y,FLv L e e ((n+us.length:Nat):Int) f:=fun y hy=>by
   obtain⟨ch,w,h1,h2,rfl⟩:=picks_mem hy;exact⟨pick_ln (Wn.all_len h2) h1,fl_pick hx⟩
  have hpn:(picks afO (winS s kh kw st 0).all (s.getD 0 0) (kh*kw) x).length≤24:=by
   rw[picks_ln,Wn.all_ln];simp only[outS,szS3]at ho;rw[←Nat.mul_assoc];exact ho
  have c:=lw_poolX (l:=Lay.ly (.mx kh kw st)) (s:=s) (x:=x) (us:=us) (all:=all) (n0:=n) (fun c j=>fsG (fun us l=>mxF n l.length us l) us (pkF (winS s kh kw st 0).all (kh*kw) x c j)) (fun us l=>mxF n l.length us l) rfl rfl rfl rfl rfl hf.2 hf.1 hxl
   rfl (fun c=>by rw[pkF_end]) (fun c j w _ hw=>by rw[pkF_snoc _ _ _ _ _ hw,fsG_snoc]) (fun c j=>by rw[fsG_len];exact pkF_len _ _ _ _ _)
   fun c j w hc hw=>by
    obtain⟨r,hr⟩:=pk_split (winS s kh kw st 0).all (kh*kw) x hc hw;have hmem:∀y∈pkF (winS s kh kw st 0).all (kh*kw) x c j,y∈picks afO (winS s kh kw st 0).all (s.getD 0 0) (kh*kw) x:=fun y hy=>by rw[←hr];exact List.mem_append_left _ hy
    have hl:=hpl (pick afO x (kh*kw) w c) (by rw[←hr];exact List.mem_append_right _ List.mem_cons_self);have hpk:(pkF (winS s kh kw st 0).all (kh*kw) x c j).length+1≤24:=by
     rw[←hr,List.length_append,List.length_cons]at hpn;omega
    obtain⟨⟨ex,k1⟩,k2,k3,_,_,_⟩:=mxs_ok hL he (K:=36) (E:=E) (by omega) (pkF (winS s kh kw st 0).all (kh*kw) x c j) us (fun y hy=>by rw[(hpl y (hmem y hy)).1];omega) hu (fun y hy=>(hpl y (hmem y hy)).2)
    have k4:=sum_le (fun l:List Af=>l.length-1) 35 (pkF (winS s kh kw st 0).all (kh*kw) x c j) fun y hy=>by
     have:=(hpl y (hmem y hy)).1;show y.length-1≤35;omega
    simp only[fsG_mxs];exact lw_max hL (by omega) (by omega) _ e _ _ he (by omega) (by omega) (by omega) (by omega) k3 fun f hf=>(hl.2 f hf).up hL (lR_ _) (by rw[k1,List.length_append];omega)
  simp only[fsG_mxs,pkF_all]at c;refine LX_run (m:=4) (n0:=4) mix Tryz.func31 rfl rfl rfl rfl ?_;conv=>whnf
  refine Cn.lK [0,1,2,3] c ?_;conv=>whnf
  exact⟨_,_,⟨rfl,rfl⟩,vR_ _,rfl,⟨⟨_,rfl,wke_refl _,rfl⟩,⟨_,rfl,wke_refl _,rfl⟩,⟨_,rfl,wke_refl _,rfl⟩,⟨_,rfl,wke_refl _,rfl⟩,trivial⟩,rfl⟩
 |av kh kw st=>
  have b1:1≤kh*kw:=hf.1.n.1;have b2:kh*kw≤36:=hf.1.n.2;have c:=lw_poolM (l:=Lay.ly (.av kh kw st)) (s:=s) (x:=x) (us:=us) (all:=all) (n0:=n) (fun c j=>fsG (fun us l=>(us,meanG afO l)) us (pkF (winS s kh kw st 0).all (kh*kw) x c j)) (fun us l=>(us,meanG afO l)) rfl rfl rfl rfl rfl hf.2 hf.1 hxl
   rfl (fun c=>by rw[pkF_end]) (fun c j w _ hw=>by rw[pkF_snoc _ _ _ _ _ hw,fsG_snoc]) (fun c j=>by rw[fsG_len];exact pkF_len _ _ _ _ _)
   fun c j w hc hw=>⟨by
    have hwl:=Wn.all_len (mG_ hw);have hpl:(pick afO x (kh*kw) w c).length=kh*kw:=pick_ln hwl hc;exact lx_lmean (n:=((n+us.length:Nat):Int)) hL (by omega) (fl_pick hx) (by omega) (by omega) (by omega) (by omega) (by rw[hpl];exact lo.inv _ b2),rfl⟩
  simp only[fsG_mean,pkF_all]at c;refine LX_run (m:=4) (n0:=4) mix Tryz.func31 rfl rfl rfl rfl ?_;conv=>whnf
  refine Cn.lK [0,1,2,3] c ?_;conv=>whnf
  exact⟨_,_,⟨rfl,rfl⟩,vR_ _,rfl,⟨⟨_,rfl,wke_refl _,rfl⟩,⟨_,rfl,wke_refl _,rfl⟩,⟨_,rfl,wke_refl _,rfl⟩,⟨_,rfl,wke_refl _,rfl⟩,trivial⟩,rfl⟩
 |relu=>exact lw_relu rfl hn hul (by omega)
 |flat=>
  refine LX_run (m:=4) (n0:=4) mix Tryz.func31 rfl rfl rfl rfl ?_;conv=>whnf
  exact⟨_,_,⟨rfl,rfl⟩,vR_ _,rfl,⟨⟨_,rfl,wke_refl _,rfl⟩,⟨_,rfl,wke_refl _,rfl⟩,⟨_,rfl,wke_refl _,rfl⟩,⟨_,rfl,wke_refl _,rfl⟩,trivial⟩,rfl⟩
 |add fr=>
  obtain⟨a1,a2,a3⟩:=hadd fr rfl;obtain⟨y,hy⟩:=at_some a2;have ey:all.getD (fr+1).toNat []=y:=getD_of hy;rw[ey]at a3;have c:=lw_add (ly:=Lay.ly (.add fr)) (s:=s) (us:=us) (n:=n) rfl hL (by omega) (by omega) (by omega) hx (ha y (mG_ hy)) a1 hy a3 (by omega) hal;rw[←ey]at c;exact c
theorem un_mono (m:Mo)(i:Nat):m.un i≤m.un (i+1):=by rw[Mo.un];omega
theorem un_le (m:Mo){i j:Nat}(h:i≤j):m.un i≤m.un j:=by
 induction j with
 |zero=>rw[show i=0 by omega];exact lR_ _
 |succ j ih=>
  rcases Nat.lt_or_ge i (j+1)with h1|h1
  ·exact tL_ (ih (by omega)) (un_mono m j)
  ·rw[show i=j+1 by omega];exact lR_ _
theorem at_shT (m:Mo){i n:Nat}(h:i<n):(ssR (m.shT n))[i]? =some [shD (m.sh (i+1))]:=at_ss (by rw[List.getElem?_map,List.getElem?_range h];rfl)
theorem lx_lcount {m:Mo}(h:MoOk m):LV Tryz.prog 28 [.a (.d (lysD m.ls)),.a (.d (ssD (m.shT m.ls.length)))] (vl (.int .i64 (m.un m.ls.length:Nat))):=by
 have hn:=h.n;have hu:=h.un;refine LX_run (m:=0) (n0:=0) mix Tryz.func28 rfl rfl rfl rfl ?_;conv=>whnf
 refine .mk Nat (fun i=>⟨[(10,vl (.int .i64 (i:Nat))),(9,vl (.int .i64 (lyR m.ls).length)),(8,.a (.d (lysD m.ls))),(5,vl (.int .i64 (m.un i:Nat))),(1,.a (.d (ssD (m.shT m.ls.length))))],[],0⟩) (fun i=>i≤m.ls.length) (fun i=>m.ls.length-i) 0 Wk.go (zL_ _) fun i hi=> ?_;conv=>whnf
 refine bs (fun g0=> ?_) (fun g0=> ?_)
 ·conv=>whnf
  have hi':i<m.ls.length:=by simpa using g0
  obtain⟨l,hl⟩:=at_some hi';have el:m.lay i=l:=getD_of hl;have hz:=lx_tsize (h.sh (i+1) (by omega)).g;have hun:=un_le m (show i+1≤m.ls.length from hi');have hat:=at_shT m hi';have e1:m.un (i+1)=m.un i+unS l (m.sh i):=by rw[Mo.un,el]
  have e2:m.sh (i+1)=outS l (m.sh i):=by rw[Mo.sh,el]
  have hf:=h.fit i hi';rw[el]at hf;refine .mk (i) ((Lay.ly l).D) (rfl) (at_ly hl) ?_;conv=>whnf
  conv=>whnf
  cases l with
  |relu=>
   conv=>whnf
   refine .mk (i) ([shD (m.sh (i+1))]) (rfl) (hat) ?_;conv=>whnf
   conv=>whnf
   refine .c (hz) ?_;conv=>whnf
   have e3:m.un (i+1)=m.un i+szS (m.sh (i+1)):=by rw[e1,e2];rfl
   have ew:IntKind.i64.wrap ((m.un i:Int)+(szS (m.sh (i+1)):Int))=(m.un (i+1):Int):=by
    rw[e3,←Int.natCast_add,wrN (by omega)]
   rw[ew];exact⟨i+1,Wk.go,hi',by omega⟩
  |mx kh kw st=>
   have hkk:1≤kh*kw∧kh*kw≤36:=hf.1.n;have hk6:=hf.1.kh;have hk7:=hf.1.kw;simp only[winS]at hk6 hk7;have e3:m.un (i+1)=m.un i+(kh*kw-1)*szS (m.sh (i+1)):=by rw[e1,e2];rfl
   have ew:IntKind.i64.wrap ((m.un i:Int)+IntKind.i64.wrap (IntKind.i64.wrap (IntKind.i64.wrap ((kh:Int)*(kw:Int))-1)*(szS (m.sh (i+1)):Int)))=(m.un (i+1):Int):=by
    have a1:IntKind.i64.wrap ((kh:Int)*(kw:Int))=((kh*kw:Nat):Int):=by rw[←Int.natCast_mul,wrN (by omega)]
    have a2:IntKind.i64.wrap (((kh*kw:Nat):Int)-1)=((kh*kw-1:Nat):Int):=by rw[wr64 (by omega) (by omega)];omega
    have a3:IntKind.i64.wrap (((kh*kw-1:Nat):Int)*(szS (m.sh (i+1)):Int))=(((kh*kw-1)*szS (m.sh (i+1)):Nat):Int):=by rw[←Int.natCast_mul,wrN (by omega)]
    rw[a1,a2,a3,e3,←Int.natCast_add,wrN (by omega)]
   conv=>whnf
   refine .mk (i) ([shD (m.sh (i+1))]) (rfl) (hat) ?_;conv=>whnf
   conv=>whnf
   refine .c (hz) ?_;conv=>whnf
   refine .mk (by kernel_rfl) ?_;conv=>whnf
   rw[show(Lay.ly (.mx kh kw st)).kh=kh from rfl,show(Lay.ly (.mx kh kw st)).kw=kw from rfl,ew];exact⟨i+1,Wk.go,hi',by omega⟩
  |_=>
   have e3:m.un (i+1)=m.un i:=e1;conv=>whnf
   exact⟨i+1,by rw[e3];exact Wk.go,hi',by omega⟩
 ·conv=>whnf
  have e:i=m.ls.length:=by have:¬i<m.ls.length:=by simpa using g0
                           omega
  rw[e];exact .q ⟨rfl,rfl⟩
abbrev lwC (l:Ly)(s:List Nat)(vs:List Af)(k:Nat)(all:List (List Af)):List A:=[.d (.lit (.int .i64 l.kind)),.d (.lit (.int .i64 l.fr)),.d (.lit (.int .i64 l.out)),.d (.lit (.int .i64 l.kh)),.d (.lit (.int .i64 l.kw)),.d (.lit (.int .i64 l.st)),.d (.lit (.int .i64 l.pad)),.d (rqsD l.ws),.d (rqsD l.bs),.d (shD s),.d (afsD vs),.own k 1 (alR all),.fn (.func 29) [] [.ptr 2 0]]
abbrev lwZ (s:List Nat)(vs:A):List A:=[.d (.lit (.int .i64 0)),.d (.lit (.int .i64 0)),.d (.lit (.int .i64 0)),.d (.lit (.int .i64 0)),.d (.lit (.int .i64 0)),.d (.lit (.int .i64 0)),.d (.lit (.int .i64 0)),.d (.lit (.slice none 0 0)),.d (.lit (.slice none 0 0)),.d (shD s),vs,.d (.lit (.slice none 0 0)),.fn (.func 29) [] [.ptr 2 0]]
abbrev vsI (i:Nat):List Af:=(List.range i).map fun(i:Nat)=>varS (i:Int)
theorem MoOk.loh {m:Mo}(h:MoOk m){i:Nat}(hi:i<m.ls.length):LoH m.L (1+40*i) 241 m.n (m.lay i) (m.sh i) (m.lw i).1 (m.lw i).2 ((m.lw i).2.getD i []):=by
 obtain⟨h1,h2,h3,h4,h5,h6⟩:=Mo.lw_ok h i (by omega);have hn:=h.n;have hmem:∀f∈(m.lw i).2.getD i [],FLv m.L (1+40*i) (1+40*i) ((m.n+(m.lw i).1.length:Nat):Int) f:=by
  rw[List.getD_eq_getElem?_getD,List.getElem?_eq_getElem (by omega)];exact h5 _ (List.getElem_mem _)
 refine⟨h.lv hi,by omega,by omega,by omega,(h.sh i (by omega)).sz,(h.sh (i+1) (by omega)).sz,⟨_,_,h.fit i hi⟩,h3 i (lR_ _),h4,hmem,h5,fun fr hfr=> ?_,(h.sh 0 (zL_ _)).sz,by rw[h2];exact tL_ (un_le m (by omega)) h.un⟩;have hf:=h.fit i hi;rw[hfr]at hf;obtain⟨f1,f2,f3⟩:=hf;refine⟨f1,by rw[h1];omega,?_⟩;rw[h3 _ (by omega),h3 i (lR_ _)];rw[Mo.shs,List.getD_eq_getElem?_getD,List.getElem?_map,List.getElem?_range (by omega)]at f3;exact congrArg szS f3
theorem lx_lower {m:Mo}(h:MoOk m):LV Tryz.prog 9 [.agg m.A] (.tup [.g (Gr.A ⟨(m.n:Nat),m.us,m.os⟩),.s (.d (.lit (.int .i64 0)))]):=by
 have hn6:=h.n;have hun:=h.un;have hs0:=h.sh 0 (zL_ _);have hsn:=h.sh m.ls.length (lR_ _);have z0:=lx_tsize hs0.g;have zn:=lx_tsize hsn.g;have hn24:m.n≤24:=hs0.sz;have hz0:szS (m.sh 0)≤24:=hs0.sz;have hzn:=hsn.sz;refine LX_run (m:=0) (n0:=0) mix Tryz.func9 rfl rfl rfl rfl ?_;conv=>whnf
 refine .c (lx_sof h) ?_;conv=>whnf
 refine bs (fun g0=> ?_) (fun g0=> ?_)<;>conv=>whnf
 have hpos:0<m.ls.length:=by simpa using g0
 obtain⟨k,hk⟩:∃k,m.ls.length=k+1:=⟨m.ls.length-1,by omega⟩;refine .mk (k) ([shD (m.sh m.ls.length)]) (by rw[List.length_map,List.length_map,List.length_range,hk,wr64 (by omega) (by omega)];omega) (by rw[hk];exact at_shT m (by omega)) ?_;conv=>whnf
 conv=>whnf
 all_goals
  refine .c (z0) ?_;conv=>whnf
  refine bF (decide_eq_false (by omega)) ?_;conv=>whnf
  refine .c (lx_lcount h) ?_;conv=>whnf
  refine bF (decide_eq_false (by omega)) ?_;conv=>whnf
  first|refine .c zn ?_|refine .c z0 ?_
  conv=>whnf
  refine bF (decide_eq_false (by omega)) ?_;conv=>whnf
  refine .c (z0) ?_;conv=>whnf
  refine .mk Nat (fun i=>⟨[(65,vl (.int .i64 (i:Nat))),(64,vl (.int .i64 (m.n:Nat))),(9,.a (.ptr 3 0)),(8,.a (.ptr 2 0)),(4,.a (.d (ssD (m.shT m.ls.length)))),(2,.a (.ptr 1 0)),(1,.a (.ptr 0 0))],
   [(0,.box 25 m.A),(2,.box 36 [.d (.lit (.int .i64 (m.n:Nat))),.d (.lit (.slice none 0 0)),.d (.lit (.slice none 0 0))]),(3,.box 76 (lwZ m.inp (.own 4 4 (afR (vsI i))))),(4,.arr 79 4 (afR (vsI i)).length),(1,.box 36 [.d (.lit (.int .i64 0)),.d (.lit (.slice none 0 0)),.d (.lit (.slice none 0 0))])],5⟩) (fun i=>i≤m.n) (fun i=>m.n-i) 0
   (Wk.trans (Wk.ownB 3 4 10 79 4 rfl rfl rfl) Wk.go) (zL_ _) fun i hi=> ?_
  conv=>whnf
  refine bs (fun g1=> ?_) (fun g1=> ?_)
  ·conv=>whnf
   have hi':i<m.n:=by have:=of_decide_eq_true g1;omega
   refine .c (lx_lvar) ?_;conv=>whnf
   refine .mk (afR (vsI (i+1))) rfl (by rw[vsI,range_map_snoc,afR,List.map_append];rfl) (by simp;omega) ?_;conv=>whnf
   refine .mk (by kernel_rfl) ?_;conv=>whnf
   exact⟨i+1,Wk.go,hi',by omega⟩
  ·conv=>whnf
   have ei:i=m.n:=by have:=of_decide_eq_false g1;omega
   subst ei
   refine .mk Nat (fun i=>⟨[(91,vl (.int .i64 (i:Nat))),(90,vl (.int .i64 (lyR m.ls).length)),(89,.a (.d (lysD m.ls))),(9,.a (.ptr 3 0)),(8,.a (.ptr 2 0)),(4,.a (.d (ssD (m.shT m.ls.length)))),(2,.a (.ptr 1 0)),(1,.a (.ptr 0 0))],
    [(0,.box 25 m.A),(2,.box 36 (gUs (m.n:Nat) 6 (m.lw i).1)),(3,.box 76 (lwC (m.lyP i) (m.sh i) ((m.lw i).2.getD i []) 5 (m.lw i).2)),(5,.arr 34 1 (alR (m.lw i).2).length),(6,.arr 79 4 ((m.lw i).1.map Af.D).length),(1,.box 36 [.d (.lit (.int .i64 0)),.d (.lit (.slice none 0 0)),.d (.lit (.slice none 0 0))])],7⟩) (fun i=>i≤m.ls.length) (fun i=>m.ls.length-i) 0
    (Wk.trans (Wk.ownB 2 6 1 79 4 rfl rfl rfl) (Wk.go (h2:=⟨⟨_,rfl,wke_refl _,rfl⟩,⟨_,rfl,wke_refl _,rfl⟩,⟨_,rfl,⟨_,rfl,aR_ _,aR_ _,aR_ _,aR_ _,aR_ _,aR_ _,aR_ _,WkA.nil,WkA.nil,aR_ _,WkA.own,aR_ _,aR_ _,trivial⟩,rfl⟩,⟨_,rfl,wke_refl _,rfl⟩,⟨_,rfl,wke_refl _,rfl⟩,⟨_,rfl,wke_refl _,rfl⟩,trivial⟩))) (zL_ _) fun i hi=> ?_
   conv=>whnf
   refine bs (fun g2=> ?_) (fun g2=> ?_)
   ·conv=>whnf
    have hi':i<m.ls.length:=by simpa using g2
    obtain⟨l,hl⟩:=at_some hi';have el:m.lay i=l:=getD_of hl;subst el;have hlo:=h.loh hi';have hll:=(Mo.lw_ok h i (by omega)).len;have c:=lw_out hlo (by omega);obtain⟨R,hR⟩:∃R,R=lowL (m.lay i) (m.sh i) m.n (m.lw i).1 (m.lw i).2 ((m.lw i).2.getD i []):=⟨_,rfl⟩;have hR1:(m.lw (i+1)).1=R.1:=by rw[hR];rfl
    have hR2:(m.lw (i+1)).2=(m.lw i).2++[R.2]:=by rw[hR];rfl
    have hR3:((m.lw i).2++[R.2]).getD (i+1) []=R.2:=getD_snoc hll;rw[←hR]at c;clear hR;refine .mk (i) ((Lay.ly (m.lay i)).D) (rfl) (at_ly hl) ?_;conv=>whnf
    conv=>whnf
    refine Cn.lK [3,2,6,5] c ?_;conv=>whnf
    refine .mk (i) ([shD (m.sh (i+1))]) (rfl) (at_shT m hi') ?_;conv=>whnf
    conv=>whnf
    refine .mk (alR ((m.lw i).2++[R.2])) rfl (by rw[alR,List.map_append];rfl) (by rw[alR,List.length_map,List.length_append,hll];simp only[List.length_singleton];omega) ?_;conv=>whnf
    refine .mk (by kernel_rfl) ?_;conv=>whnf
    exact⟨i+1,by rw[hR1,hR2,hR3];exact Wk.go,hi',by omega⟩
   ·conv=>whnf
    have ei:i=m.ls.length:=by have:¬i<m.ls.length:=by simpa using g2
                              omega
    rw[ei];have hol:=h.gk.2.1;refine .mk (afR m.os) rfl rfl (by rw[afR,List.length_map,hol];omega) ?_;conv=>whnf
    refine .mk (by kernel_rfl) ?_;conv=>whnf
    exact .s ⟨rfl,rfl⟩
def evG (v:List Rat)(f:Af)(i:Nat):Rat:=(f.ts.take i).foldl (fun a t=>a+t.q*xi v t.v) f.c
theorem evG_succ {f:Af}{v:List Rat}{i:Nat}{t:Tm}(h:f.ts[i]? =some t):evG v f (i+1)=evG v f i+t.q*xi v t.v:=by
 unfold evG;rw[take_snoc h,List.foldl_append];rfl
theorem evG_all (f:Af)(v:List Rat):evG v f f.ts.length=ph 1 (xi v) f:=by
 have key:∀(ts:List Tm) (a:Rat),ts.foldl (fun a t=>a+t.q*xi v t.v) a=lsum (xi v) ts+a:=by
  intro ts
  induction ts with
  |nil=>intro a;simp[lsum,Rat.zero_add]
  |cons t ts ih=>intro a;rw[List.foldl_cons,ih,lsum];grind
 unfold evG ph;rw[List.take_length,key];grind
theorem xi_lv {L V:Nat}{v:List Rat}(h:Ll L V v)(i:Int):Lv L V (xi v i):=by
 unfold xi;rw[List.getD_eq_getElem?_getD]
 cases hx:v[i.toNat]? with
 |none=>exact Lv.zero
 |some x=>exact h x (mG_ hx)
theorem evG_lw {L e k V P:Nat}{n:Int}{f:Af}{v:List Rat}(hL:LOk L)(h:FLv L e k n f)(hv:Ll L V v)(h1:k≤P)(h2:e+V≤P):∀i,i≤f.ts.length→Lw L P (i+1) (evG v f i)
 |0,_=>((h.c.mono hL h1).w)
 |i+1,hi=>by
  obtain⟨t,ht⟩:=at_some (l:=f.ts) (i:=i) (by omega);rw[evG_succ ht];have hq:=h.co t.v;rw[(h.ts.cof_mem t (mG_ ht)).1]at hq;exact(evG_lw hL h hv h1 h2 i (by omega)).add ((hq.mul (xi_lv hv t.v)).mono hL h2).w
theorem ev_ph {L e k V P:Nat}{n:Int}{f:Af}{v:List Rat}(hL:LOk L)(h:FLv L e k n f)(hv:Ll L V v)(h1:k≤P)(h2:e+V≤P)(hl:f.ts.length≤1000):Lv L (P+1) (ph 1 (xi v) f):=by
 rw[←evG_all];exact(evG_lw hL h hv h1 h2 _ (lR_ _)).up hL (by omega)
theorem lx_geval {L e k V P:Nat}{n:Int}{f:Af}{v:List Rat}(hL:LOk L)(h:FLv L e k n f)(hv:Ll L V v)(h1:k≤P)(h2:e+V≤P)(hP:P≤20000)(h0:0≤n)(hn:n≤v.length)(hN:v.length≤1000):
  LV Tryz.prog 38 [.agg f.A,.a (.d (rqsD v))] (.tup [.g (can (ph 1 (xi v) f)).A,.s (.d (.lit (.int .i64 0)))]):=by
 have hlen:=h.ts.len h0;have hall:=evG_all f v;refine LX_run (m:=0) (n0:=0) mix Tryz.func38 rfl rfl rfl rfl ?_;conv=>whnf
 refine .mk Nat (fun i=>⟨[(14,vl (.int .i64 (i:Nat))),(13,vl (.int .i64 (f.ts.map Tm.D).length)),(12,.a (.d (.sl 4 (f.ts.map Tm.D)))),(6,.a (.ptr 2 0)),(4,.a (.ptr 1 0)),(2,.a (.ptr 0 0)),(1,.a (.d (rqsD v)))],[(0,.box 79 f.A),(1,.box 56 [.d (.lit (.bool false)),.d (.nat 0),.d (.nat 0)]),(2,.box 56 (can (evG v f i)).A)],3⟩)
  (fun i=>i≤f.ts.length) (fun i=>f.ts.length-i) 0 Wk.go (zL_ _) fun i hi=> ?_
 have hy:=evG_lw hL h hv h1 h2 i hi;conv=>whnf
 refine bs (fun g1=> ?_) (fun g1=> ?_)
 ·conv=>whnf
  have h1':i<f.ts.length:=by simpa using g1
  obtain⟨t,ht⟩:=at_some h1';have hs:=evG_succ (v:=v) ht;obtain⟨c1,c2,c3,c4⟩:=h.ts.cof_mem t (mG_ ht);have hq:=h.co t.v;rw[c1]at hq;obtain⟨tv,tq⟩:=t;simp only at c1 c2 c3 c4 hs hq;obtain⟨j,rfl⟩:∃j:Nat,tv=j:=⟨tv.toNat,by omega⟩;obtain⟨x,hx⟩:=at_some (l:=v) (i:=j) (by omega);have xb:=hv x (mG_ hx);rw[show xi v (j:Int)=x by unfold xi;rw[Int.toNat_natCast];exact getD_of hx]at hs;have hm:=(hq.mul xb).mono hL h2;generalize evG v f i=y at *
  refine .mk (i) ((Tm.D ⟨(j:Int),tq⟩)) (rfl) (at_map ht) ?_;conv=>whnf
  conv=>whnf
  refine bF (decide_eq_false (show ¬((j:Int)≥((v.map fun q=>(can q).D).length:Int)) by rw[List.length_map];omega)) ?_;conv=>whnf
  refine .mk (j) ((can x).D) (rfl) (at_map (f:=fun q=>(can q).D) hx) ?_;conv=>whnf
  conv=>whnf
  refine .c (lx_rmul (.c ((hq.mono hL (by omega:e≤P)).z hL (by omega))) (.c (xb.z hL (by omega)))) ?_;conv=>whnf
  refine .c (lx_radd (.c (hy.z hL (by omega) (by omega))) (.c (hm.z hL (by omega)))) ?_;conv=>whnf
  refine .mk (by kernel_rfl) ?_;conv=>whnf
  exact⟨i+1,by rw[hs];exact Wk.go,h1',by omega⟩
 ·conv=>whnf
  have e:i=f.ts.length:=by simp at g1;omega
  rw[e,hall]at hy;rw[e,hall];refine .c (lx_rcanon (.c (hy.z hL (by omega) (by omega)))) ?_;conv=>whnf
  exact .q ⟨rfl,rfl⟩
theorem Gk.eb {L n:Nat}{us os:List Af}(h:Gk L n us os):eL us.length≤340∧kL us.length≤8300:=by
 have:=h.u;unfold eL kL;omega
theorem Gk.uf' {L n:Nat}{us os:List Af}(hL:LOk L)(h:Gk L n us os){j:Nat}{f:Af}(hj:us[j]? =some f):FLv L 340 8300 ((n+j:Nat):Int) f:=(h.uf j f hj).mono hL h.eb.1 h.eb.2 (Int.le_refl _)
theorem Gk.of' {L n:Nat}{us os:List Af}(hL:LOk L)(h:Gk L n us os){f:Af}(hf:f∈os):FLv L 340 8300 ((n+us.length:Nat):Int) f:=(h.of f hf).mono hL h.eb.1 h.eb.2 (Int.le_refl _)
theorem FLv.af {L e k:Nat}{n:Int}{f:Af}(hL:LOk L)(h:FLv L e k n f)(he:e≤90000)(hk:k≤90000)(h0:0≤n)(hn:n≤1000000):AfOk f n:=(h.fb (m:=90000) hL he hk).ok (by omega) h0 hn
theorem Gk.ok {L n:Nat}{us os:List Af}(hL:LOk L)(h:Gk L n us os)(hn:1≤n)(hn':n≤24)(ho:1≤os.length)(ho':os.length≤24):GrOk ⟨(n:Nat),us,os⟩:=by
 have hu:=h.u;refine⟨by simp only;omega,by simp only;omega,by simp only;omega,ho,by simp only;omega,fun j f hj=> ?_,fun f hf=> ?_⟩
 ·have hlt:j<us.length:=at_lt hj;exact(h.uf' hL hj).af hL (by omega) (by omega) (Int.natCast_nonneg _) (show((n+j:Nat):Int)≤1000000 by omega)
 ·exact(h.of' hL hf).af hL (by omega) (by omega) (Int.natCast_nonneg _) (show((n+us.length:Nat):Int)≤1000000 by omega)
theorem gv_lv {L n:Nat}{us os:List Af}{x:List Rat}(hL:LOk L)(h:Gk L n us os)(hn:n≤24)(hx:Ll L 1 x)(hxl:x.length=n):∀j,j≤us.length→Ll L (8400+350*j) (gv us x j)
 |0,_=>fun v hv=>(hx v hv).mono hL (by omega)
 |j+1,hj=>fun v hv=>by
  have hu:=h.u;obtain⟨f,hf⟩:=at_some (l:=us) (i:=j) (by omega);have ih:=gv_lv hL h hn hx hxl j (by omega);rw[gv]at hv;rcases List.mem_append.1 hv with hv|hv
  ·exact(ih v hv).mono hL (by omega)
  ·rw[List.mem_singleton.1 hv,getD_of hf];have hfl:=h.uf' hL hf;have hlen:=hfl.ts.len (Int.natCast_nonneg _);have:=ev_ph (P:=8740+350*j) hL hfl ih (by omega) (by omega) (by omega);exact(Lv.zero.max this).mono hL (by omega)
def gp (us:List Af)(x:List Rat)(j:Nat):List Rat:=(List.range j).map fun j=>ph 1 (xi (gv us x j)) (us.getD j z0)
theorem gv_rows {us:List Af}{x:List Rat}{f:Af}{j:Nat}(hf:us[j]? =some f):rqR (gv us x (j+1))=rqR (gv us x j)++[(can (maxQ 0 (ph 1 (xi (gv us x j)) f))).D]:=by
 rw[gv,getD_of hf,rqR,List.map_append];rfl
theorem gp_rows {us:List Af}{x:List Rat}{f:Af}{j:Nat}(hf:us[j]? =some f):rqR (gp us x (j+1))=rqR (gp us x j)++[(can (ph 1 (xi (gv us x j)) f)).D]:=by
 rw[gp,range_map_snoc,getD_of hf,rqR,List.map_append];rfl
theorem lx_grun {L n:Nat}{us os:List Af}{x:List Rat}(hL:LOk L)(h:Gk L n us os)(hn:1≤n)(hn':n≤24)(ho:1≤os.length)(ho':os.length≤24)(hx:Ll L 1 x)(hxl:x.length=n):
  LV Tryz.prog 37 [.agg (Gr.A ⟨n,us,os⟩),.a (.d (rqsD x))] (.tup [.s (.d (rqsD (gv us x us.length))),.s (.d (rqsD (gp us x us.length))),.s (.d (.lit (.int .i64 0)))]):=by
 have hu:=h.u;refine LX_run (m:=0) (n0:=0) mix Tryz.func37 rfl rfl rfl rfl ?_;conv=>whnf
 refine .c (lx_gvalid (h.ok hL hn hn' ho ho')) ?_;conv=>whnf
 refine bF (by simp[hxl]) ?_;conv=>whnf
 refine .mk Nat (fun i=>⟨[(25,vl (.int .i64 (i:Nat))),(24,vl (.int .i64 (rqR x).length)),(23,.a (.d (rqsD x))),(4,.a (.own 1 3 (rqR (x.take i)))),(5,.a (.d (.lit (.slice none 0 0)))),(2,.a (.ptr 0 0))],
  [(0,.box 36 (Gr.A ⟨n,us,os⟩)),(1,.arr 56 3 (rqR (x.take i)).length)],2⟩) (fun i=>i≤x.length) (fun i=>x.length-i) 0
  (Wk.trans (Wk.own 4 1 56 3 rfl rfl (zL_ _)) Wk.go) (zL_ _) fun i hi=> ?_
 conv=>whnf
 refine bs (fun g0=> ?_) (fun g0=> ?_)
 ·conv=>whnf
  have hi':i<x.length:=by simpa using g0
  obtain⟨v,hv⟩:=at_some hi';refine .mk (i) ((can v).D) (rfl) (at_rq hv) ?_;conv=>whnf
  conv=>whnf
  refine .c (lx_rcanon (.c ((hx v (mG_ hv)).z hL (by omega)))) ?_;conv=>whnf
  refine .mk (rqR (x.take (i+1))) rfl (by rw[take_snoc hv,rqR,List.map_append];rfl) (by simp;omega) ?_;conv=>whnf
  exact⟨i+1,Wk.go,hi',by omega⟩
 ·conv=>whnf
  have ei:i=x.length:=by have:¬i<x.length:=by simpa using g0
                         omega
  rw[ei,List.take_length]
  refine .mk Nat (fun j=>⟨[(38,vl (.int .i64 (j:Nat))),(37,vl (.int .i64 (us.map Af.D).length)),(36,.a (.d (afsD us))),(4,.a (.own 1 3 (rqR (gv us x j)))),(5,.a (.own 2 3 (rqR (gp us x j)))),(2,.a (.ptr 0 0))],
   [(0,.box 36 (Gr.A ⟨n,us,os⟩)),(1,.arr 56 3 (rqR (gv us x j)).length),(2,.arr 56 3 (rqR (gp us x j)).length)],3⟩) (fun j=>j≤us.length) (fun j=>us.length-j) 0
   (Wk.trans (Wk.own 5 2 56 3 rfl rfl (zL_ _)) Wk.go) (zL_ _) fun j hj=> ?_
  conv=>whnf
  refine bs (fun g1=> ?_) (fun g1=> ?_)
  ·conv=>whnf
   have hj':j<us.length:=by simpa using g1
   obtain⟨f,hf⟩:=at_some hj';have hgl:=gv_lv hL h hn' hx hxl j (by omega);have hgn:=gv_len (us:=us) (x:=x) j;have hfl:=h.uf' hL hf;have hlen:=hfl.ts.len (Int.natCast_nonneg _);have hev:=ev_ph (P:=8740+350*j) hL hfl hgl (by omega) (by omega) (by omega);have c:=lx_geval (P:=8740+350*j) hL hfl hgl (by omega) (by omega) (by omega) (Int.natCast_nonneg _) (by omega) (by omega);refine .mk (j) (f.D) (rfl) (at_map hf) ?_;conv=>whnf
   conv=>whnf
   refine .c (c) ?_;conv=>whnf
   refine .mk (rqR (gp us x (j+1))) rfl (gp_rows hf) (by rw[List.length_map,gp,List.length_map,List.length_range];omega) ?_;conv=>whnf
   refine Cn.as (lx_rmax (.c (Lv.zero (L:=L) (e:=1) |>.z hL (by omega))) (.c (hev.z hL (by omega)))) rfl ⟨lit0_wk,vR_ _,trivial⟩ rfl rfl ?_;conv=>whnf
   refine .mk (rqR (gv us x (j+1))) rfl (gv_rows hf) (by rw[List.length_map,gv_len];omega) ?_;conv=>whnf
   exact⟨j+1,Wk.go,hj',by omega⟩
  ·conv=>whnf
   have ej:j=us.length:=by have:¬j<us.length:=by simpa using g1
                           omega
   rw[ej];exact .s ⟨rfl,rfl⟩
abbrev goT (us:List Af)(x:List Rat)(os:List Af)(i:Nat):List Rat:=(os.take i).map (ph 1 (xi (gv us x us.length)))
theorem lx_gouts {L n:Nat}{us os:List Af}{x:List Rat}(hL:LOk L)(h:Gk L n us os)(hn:1≤n)(hn':n≤24)(ho:1≤os.length)(ho':os.length≤24)(hx:Ll L 1 x)(hxl:x.length=n):
  LV Tryz.prog 11 [.agg (Gr.A ⟨n,us,os⟩),.a (.d (rqsD x))] (.tup [.s (.d (rqsD (gOut us os x))),.s (.d (.lit (.int .i64 0)))]):=by
 have hu:=h.u;have hgl:=gv_lv hL h hn' hx hxl us.length (lR_ _);have hgn:=gv_len (us:=us) (x:=x) us.length;refine LX_run (m:=0) (n0:=0) mix Tryz.func11 rfl rfl rfl rfl ?_;conv=>whnf
 refine .c (lx_grun hL h hn hn' ho ho' hx hxl) ?_;conv=>whnf
 refine .mk Nat (fun i=>⟨[(27,vl (.int .i64 (i:Nat))),(26,vl (.int .i64 (os.map Af.D).length)),(25,.a (.d (afsD os))),(9,.a (.own 1 3 (rqR (goT us x os i)))),(6,.a (.d (rqsD (gv us x us.length))))],
  [(1,.arr 56 3 (rqR (goT us x os i)).length)],2⟩) (fun i=>i≤os.length) (fun i=>os.length-i) 0
  (Wk.trans (Wk.own 9 1 56 3 rfl rfl (zL_ _)) Wk.go) (zL_ _) fun i hi=> ?_
 conv=>whnf
 refine bs (fun g0=> ?_) (fun g0=> ?_)
 ·conv=>whnf
  have hi':i<os.length:=by simpa using g0
  obtain⟨f,hf⟩:=at_some hi';have hfl:=h.of' hL (mG_ hf);have c:=lx_geval (P:=8740+350*us.length) hL hfl hgl (by omega) (by omega) (by omega) (Int.natCast_nonneg _) (by omega) (by omega);refine .mk (i) (f.D) (rfl) (at_map hf) ?_;conv=>whnf
  conv=>whnf
  refine .c (c) ?_;conv=>whnf
  refine .mk (rqR (goT us x os (i+1))) rfl (by rw[goT,take_snoc hf,List.map_append,rqR,List.map_append];rfl) (by simp;omega) ?_;conv=>whnf
  exact⟨i+1,Wk.go,hi',by omega⟩
 ·conv=>whnf
  have ei:i=os.length:=by have:¬i<os.length:=by simpa using g0
                          omega
  rw[ei];exact .s ⟨by rw[goT,List.take_length];rfl,rfl⟩
section
variable {γ γ':Gh} {h h':Hp} {M:MS} {w:World} {g:Nat}
def NU (M:MS)(w:World)(g:Nat):Prop:=∀i u,Fx M w g i u→∀z,u≠ .int .u32 z
abbrev Mh (M:MS)(g:Nat):MS:=fun b i=>M b i∨b=g
theorem nu_fx {b i:Nat}{u:Value}(h:Fx M w b i u)(hb:b≠g):Fx (Mh M g) w b i u:=⟨fun q=>q.elim h.1 hb,h.2⟩
theorem nu_lm (hg:NU M w g){xs:List Nat}{v:Value}(hv:RdD M w (.lm xs) v):RdD (Mh M g) w (.lm xs) v:=by
 cases hv with
 |lm xs v hs hm=>
  refine .lm xs v hs fun b o l c he i hi hq=> ?_;rcases hq with hq|hq
  ·exact hm b o l c he i hi hq
  ·obtain⟨ad,n,cap,e1,h1,h2,h3,h4,h5⟩:=hs;rw[he]at e1;injection e1 with e1 e2 e3;subst e2 e3;obtain⟨b',off,e4,hb,hc⟩:=h5 (by omega);rw[e4]at e1;injection e1 with e1;injection e1 with e5 e6;subst e5 e6 hq;exact hg (o+i) _ ⟨hm b o l c he i hi,hc i hi⟩ _ rfl
theorem nu_lit {v u:Value}(hv:RdD M w (.lit v) u):RdD (Mh M g) w (.lit v) u:=by cases hv with|lit v=>exact .lit _
theorem tm_nu (hg:NU M w g){t:Tm}:∀d∈t.D,∀u,RdD M w d u→RdD (Mh M g) w d u:=fun d hd u hu=>by
 simp only[Tm.D,List.mem_cons,List.not_mem_nil,or_false]at hd;rcases hd with rfl|rfl|rfl|rfl
 ·exact nu_lit hu
 ·exact nu_lit hu
 ·exact nu_lm hg hu
 ·exact nu_lm hg hu
theorem tm_nint {t:Tm}:∀d∈t.D,∀u,RdD M w d u→∀z,u≠ .int .u32 z:=fun d hd u hu z e=>by
 subst e;simp only[Tm.D,List.mem_cons,List.not_mem_nil,or_false]at hd;rcases hd with rfl|rfl|rfl|rfl
 ·cases hu
 ·cases hu
 ·cases hu with|lm _ _ hs _=>obtain⟨ad,n,cap,e,_⟩:=hs;cases e
 ·cases hu with|lm _ _ hs _=>obtain⟨ad,n,cap,e,_⟩:=hs;cases e
end
theorem LX.thawT {P:Program}{F:FuncId}{args:List V}{e:TypeId}{ts:List Tm}(hts:ts≠[])
  (hc:LX P F args [] fun v H=>v= .a (.own 0 4 (ts.map Tm.D))∧H=[(0,.arr e 4 (ts.map Tm.D).length)]):
  LX P F args [] fun v H=>v= .a (.tab 0 (ts.map Tm.D).length)∧H=[(0,.tab e 4 (ts.map Tm.D))]:=by
 obtain⟨_,_,⟨rfl,rfl⟩,hc⟩:=hc;refine⟨_,_,⟨rfl,rfl⟩,fun γ M w rs hr ha=> ?_⟩;refine cM (hc γ M w rs hr ha) ?_;rintro e' w' ⟨x,γ',M',h1,h2,h3,h4⟩;obtain⟨a1,a2,a3⟩:=h3;have b4:=(a3 e 4 _ rfl).2 rfl;obtain⟨xs,hx⟩:=h2.ent 0 _ rfl;rw[←b4]at hx;obtain⟨g1,c1,cur1,rfl,z1,l1,s1⟩:∃g cap cur,x= .slice (some ⟨g,0,none⟩) (ts.map Tm.D).length cap∧w'.heap[g]? =some (.cells cur e (0,0))∧(ts.map Tm.D).length≤cap∧cur.size=cap*4:=by
  rcases hx.2 with⟨q1,q2⟩|⟨g,cap,cur,q1,_,q2,q3,_,q4,_⟩
  ·exfalso;apply hts;exact List.map_eq_nil_iff.1 (List.eq_nil_of_length_eq_zero q2)
  ·exact⟨g,cap,cur,q1,q2,q3,q4⟩
 have y1:γ' 0= .slice (some ⟨g1,0,none⟩) (ts.map Tm.D).length c1:=b4.symm
 have hroom:∀i,(ts.map Tm.D).length*4≤i→M' g1 i:=fun i hi=>h2.own 0 g1 i (by
  show blk (γ' 0)=some g1∧_;exact⟨by rw[y1];rfl,hi⟩)
 have hnew:w.heap.size≤g1:=by
  rcases Nat.lt_or_ge g1 w.heap.size with hlt|hge
  ·obtain⟨key0,ho⟩:=h4.new 0 g1 ((ts.map Tm.D).length*4) (by
    show blk (γ' 0)=some g1∧_;exact⟨by rw[y1];rfl,lR_ _⟩) hlt
   exact absurd ho (by unfold Owns;simp[look])
  ·exact hge
 obtain⟨m1,m2,m3,m4,cx,k1,k2,k3,k4⟩:=sl_cells a1 (by decide);have hpos:0<(ts.map Tm.D).length:=by
  rcases eP_ (ts.map Tm.D).length with h0|h0
  ·exfalso;apply hts;exact List.map_eq_nil_iff.1 (List.eq_nil_of_length_eq_zero h0)
  ·exact h0
 obtain⟨b,o,eb,hfx⟩:=k3 hpos;injection eb with eb;injection eb with eb eo _;subst eb eo
 have hcur:∀q u,cx[q]? =some u→cur1[q]? =some u:=fun q u hq=>by
  have:=(hfx q u hq).2;simp only[World.cell?,z1,Nat.zero_add]at this;simpa using this
 obtain⟨f1,f2⟩:=rows_flatten (xs:=ts.map Tm.D) m4
 have hel:∀q u,cx[q]? =some u→∃d,(ts.map Tm.D).flatten[q]? =some d∧(∃f:Tm,d∈f.D)∧RdD M' w' d u:=fun q u hq=>by
  have hlt:=(List.getElem?_eq_some_iff.1 hq).1;obtain⟨i,j,row,e1,e2,e3⟩:=f2 q _ (List.getElem?_eq_getElem (by rw[f1];omega));obtain⟨u',t1,t2⟩:=k4 i row j _ e2 e3;rw[←e1,hq]at t1;injection t1 with t1;subst t1;refine⟨_,List.getElem?_eq_getElem _,?_,t2⟩;obtain⟨f,_,rfl⟩:=List.mem_map.1 (mG_ e2);exact⟨f,mG_ e3⟩
 have hcell:∀i u,Fx M' w' g1 i u→cx[i]? =some u:=fun i u hf=>by
  have hi:i<(ts.map Tm.D).length*4:=by
   rcases Nat.lt_or_ge i ((ts.map Tm.D).length*4)with hlt|hge
   ·exact hlt
   ·exact absurd (hroom i hge) hf.1
  have hlt:i<cx.length:=by omega
  have hq:=List.getElem?_eq_getElem hlt;have:=(hfx i _ hq).2;rw[Nat.zero_add]at this;rw[hf.2]at this;injection this with this;rw[hq,this]
 have hni:NU M' w' g1:=fun i u hf z=>by
  obtain⟨d,_,⟨f,hd⟩,hu⟩:=hel i u (hcell i u hf);exact tm_nint d hd u hu z
 have hall:All2 (RdD (Mh M' g1) w') (ts.map Tm.D).flatten cx:=by
  refine All2.of_get (by rw[f1];omega) fun q d u hd hq=> ?_;obtain⟨d',e1,⟨f,hf⟩,hu⟩:=hel q u hq;rw[hd]at e1;injection e1 with e1;subst e1;exact tm_nu hni d hf u hu
 have hcur2:cur1=(cx++cur1.toList.drop cx.length).toArray:=by
  apply Array.ext';rw[List.toList_toArray];have:cur1.toList.take cx.length=cx:=by
   refine List.ext_getElem? fun q=> ?_;rw[List.getElem?_take];split
   ·rename_i hq;rw[List.getElem?_eq_getElem hq,Array.getElem?_toList];exact hcur q _ (List.getElem?_eq_getElem hq)
   ·rw[List.getElem?_eq_none (by omega)]
  conv=>lhs;rw[←List.take_append_drop cx.length cur1.toList,this]
 have hf0:∀b i v,Fx M w b i v→Fx (Mh M' g1) w' b i v:=fun b i v hf=>by
  have hb:=World.block_lt_of_cell? _ _ hf.2;exact nu_fx (h4.fx b i v hf) (by simp only at hb;omega)
 have hl:∀key e',look [(0,Ent.tab e 4 (ts.map Tm.D))] key=some e'→key=0∧e'= .tab e 4 (ts.map Tm.D):=fun key e' he=>by
  unfold look at he;split at he
  ·injection he with he;exact⟨by omega,he.symm⟩
  ·cases he
 have hown:∀key b i,Owns (fun _=>Value.pointer (some ⟨g1,0,none⟩)) (look [(0,Ent.tab e 4 (ts.map Tm.D))]) key b i→b=g1:=fun key b i ho=>by
  obtain⟨_,k2⟩:=owns_live ho;simp[blk]at k2;exact k2.symm
 have hlive:∀key,live (look [(0,Ent.tab e 4 (ts.map Tm.D))] key)=true→key=0:=fun key hk=>by
  cases he:look [(0,Ent.tab e 4 (ts.map Tm.D))] key with
  |none=>rw[he]at hk;cases hk
  |some e'=>exact(hl _ _ he).1
 refine⟨_,fun _=> .pointer (some ⟨g1,0,none⟩),Mh M' g1,h1,⟨fun key en hk=> ?_,fun key b i ho=> .inr (hown _ _ _ ho),fun k1' k2' b l1' l2' _ _=>by rw[hlive _ l1',hlive _ l2'],fun b i z hm=> ?_,fun b i hm=> ?_,hr.glb.fx hf0⟩,⟨rfl,⟨g1,c1,rfl,rfl,l1⟩,fun e1 k rows he=> ?_⟩,
  ⟨h4.os,h4.tape,h4.output,h4.size,hf0,h4.other,fun b i hm hn=> .inl (h4.keep b i hm hn),fun key b i ho hb=>by have:=hown _ _ _ ho;omega,fun key en hk=>by simp[look]at hk⟩⟩
 ·obtain⟨rfl,rfl⟩:=hl key en hk;refine⟨g1,cx,cur1.toList.drop cx.length,rfl,by rw[←hcur2];exact z1,fun row hrow=> ?_,hall,k2⟩;obtain⟨f,_,rfl⟩:=List.mem_map.1 hrow;rfl
 ·rcases hm with hm|hm
  ·exact h2.u32 b i z hm
  ·subst hm;intro hcl;rcases Classical.em (∃u,cx[i]? =some u)with⟨u,hu⟩|hno
   ·obtain⟨d,_,⟨f,hd⟩,hru⟩:=hel i u hu;have:=(hfx i u hu).2;rw[Nat.zero_add,hcl]at this;injection this with this;exact tm_nint d hd u hru _ this.symm
   ·have hge:(ts.map Tm.D).length*4≤i:=by
     rcases Nat.lt_or_ge i ((ts.map Tm.D).length*4)with hlt|hge
     ·exfalso;exact hno ⟨_,List.getElem?_eq_getElem (by omega)⟩
     ·exact hge
    exact h2.u32 b i z (hroom i hge) hcl
 ·rcases hm with hm|hm
  ·exact h2.dom b i hm
  ·subst hm;exact(Array.getElem?_eq_some_iff.1 z1).1
 ·obtain⟨_,he⟩:=hl _ _ he;injection he with _ _ he;rw[he]
theorem Wk.freezeB {m:Nat}{s:St}(b key j nn:Nat){t e:TypeId}{k:Nat}{cs:List A}{rows:List (List D)}(hb:look s.H b=some (.box t cs))(hj:cs[j]? =some (.tab key nn))(hk:look s.H key=some (.tab e k rows))(hl:nn≤1099511627776):
  Wk m s ⟨s.T,(b,.box t (cs.set j (.d (.sl k rows))))::(key,.gone)::s.H,s.n⟩:=by
 intro N γ0 h0 M0 w0 a w hm hd hS;obtain⟨γ,M,k1,k2,k3,k4,k5⟩:=hS;have hne:b≠key:=by intro e1;subst e1;rw[hb]at hk;cases hk
 obtain⟨M',q1,q2,q3⟩:=Lf.freeze k1 hk hl;obtain⟨h1,hh1⟩:∃h1,h1=over [(key,Ent.gone)] (look s.H):=⟨_,rfl⟩;rw[←hh1]at q1 q2;have hb1:h1 b=some (.box t cs):=by rw[hh1,over_other hne];exact hb
 obtain⟨h2,hh2⟩:∃h2,h2=over [(b,Ent.box t (cs.set j (.d (.sl k rows))))] h1:=⟨_,rfl⟩;have hb2:h2 b=some (.box t (cs.set j (.d (.sl k rows)))):=by rw[hh2,over_same]
 have ho2:∀key',key'≠b→h2 key'=h1 key':=fun key' e1=>by rw[hh2,over_other e1]
 have ho:∀key' b' i,Owns γ h2 key' b' i↔Owns γ h1 key' b' i:=fun key' b' i=>by
  by_cases e1:key'=b
  ·subst e1;simp only[Owns,hb1,hb2]
  ·exact owns_congr rfl (ho2 _ e1)
 have hlv:∀key',live (h2 key')=live (h1 key'):=fun key'=>by
  by_cases e1:key'=b
  ·subst e1;rw[hb1,hb2];rfl
  ·rw[ho2 _ e1]
 have s2:Stp γ h1 M' w γ h2 M' w:=by
  refine⟨rfl,rfl,rfl,lR_ _,fun _ _ _ k=>k,fun _ _ _=>rfl,fun _ _ k _=>k,fun key' b' i h1 _=>⟨key',(ho _ _ _).1 h1⟩,fun key' e' he=> ?_⟩
  by_cases e1:key'=b
  ·subst e1;rw[hb1]at he;injection he with he;subst he;exact⟨_,hb2,trivial,.inl rfl⟩
  ·exact⟨e',by rw[ho2 _ e1];exact he,Goes.refl _,.inl rfl⟩
 have s3:=Stp.trans q2 s2 k1.dom;have r2:Rel γ h2 M' w:=by
  refine⟨fun key' e' he=> ?_,fun key' b' i h1=>q1.own key' b' i ((ho _ _ _).1 h1),fun k1 k2 b' l1 l2 b1 b2=>q1.inj k1 k2 b' (by rw[←hlv];exact l1) (by rw[←hlv];exact l2) b1 b2,q1.u32,q1.dom,q1.glb⟩
  by_cases e1:key'=b
  ·subst e1;rw[hb2]at he;injection he with he;subst he;obtain⟨g,vs,p1,p2,p3⟩:=k1.ent _ _ hb
   have p4:All2 (fun x v=>RdA γ (look s.H) M w x v∨(x= .d (.sl k rows)∧RdD M' w (.sl k rows) v)) (cs.set j (.d (.sl k rows))) vs:=
    All2.set (All2.imp (fun x v hv=> .inl hv) p3) hj fun v hv=> .inr ⟨rfl,q3 v (hv.elim id fun hv=>by cases hv.1)⟩
   exact⟨g,vs,p1,p2,All2.imp (fun x v hv=>hv.elim (fun hv=>RdA.stp s3 hv) fun hv=>by rw[hv.1];exact hv.2) p4⟩
  ·rw[ho2 _ e1]at he;exact EntR.stp s2 (q1.ent key' e' he) rfl fun _ _ _=>rfl
 have e1:look ((b,Ent.box t (cs.set j (.d (.sl k rows))))::(key,Ent.gone)::s.H)=h2:=by
  rw[hh2,hh1,←look_app [(key,Ent.gone)] s.H];exact look_app [(b,_)] ((key,Ent.gone)::s.H)
 refine⟨γ,M',by rw[e1];exact r2,⟨k2.1.fx s3.fx,fun d' v' hv'=> ?_⟩,k3,k4,by rw[e1];exact k5.trans s3 hd⟩;obtain⟨x,y1,y2⟩:=k2.2 d' v' hv';exact⟨x,y1,by rw[e1];exact RdV.stp s3 y2⟩
end Go.Proofs.YtbegidaaiajffaaGreatDoor.Lf
