/- Texts LiL LiM LiN LiO LiQ of this proof, in this order. -/
import Derived.Test.YtikglhmabidjoaaGreatV08
set_option linter.unusedVariables false
set_option linter.unusedSimpArgs false
set_option maxRecDepth 100000
set_option maxHeartbeats 4000000
namespace Go.Proofs.YtikglhmabidjoaaGreat.Lf
open Go.RowKit Nt
structure PthI (q : Qu) (P : List Dc) : Prop where
 fit : ∀ d ∈ P, fitB q d = true
 sm : ∀ d ∈ P, d.at_.sm
 bt : ∀ d ∈ P, Bt 128 d.at_.q
 tw : twB P = false
theorem PthI.snoc {q : Qu} {P : List Dc} {d : Dc} (h : PthI q P) (hf : fitB q d = true) (hs : d.at_.sm) (hb : Bt 128 d.at_.q) (ht : twB (P ++ [d]) = false) : PthI q (P ++ [d]) := by
 refine ⟨fun x hx => ?_, fun x hx => ?_, fun x hx => ?_, ht⟩
 ·
  rcases List.mem_append.1 hx with h5 | h5
  ·
   exact h.fit x h5
  ·
   rw [List.mem_singleton.1 h5]; exact hf
 ·
  rcases List.mem_append.1 hx with h5 | h5
  ·
   exact h.sm x h5
  ·
   rw [List.mem_singleton.1 h5]; exact hs
 ·
  rcases List.mem_append.1 hx with h5 | h5
  ·
   exact h.bt x h5
  ·
   rw [List.mem_singleton.1 h5]; exact hb
theorem ext_tw {P : List Dc} {d : Dc} (h : extE P d = 0) : twB (P ++ [d]) = false ∧ extP P d = P ++ [d] := by
 refine ⟨?_, by rw [extP, if_pos h]⟩
 unfold extE at h
 repeat' split at h
 all_goals first | omega | simp_all
structure ScI (s : Sp) : Prop where
 q : QuB s.q
 p : PthI s.q s.path
 pl : s.path.length ≤ 13
 ll : s.ls.length ≤ 40
 ln : ∀ m ∈ s.ls, m.v.sm
 lb : ∀ m ∈ s.ls, Bt 300000000 m.v.q
theorem ScI.sp {s : Sp} (h : ScI s) : SpOk s :=
 ⟨h.q.ok, tL_ h.pl (by decide), h.p.sm, tL_ h.ll (by decide), h.ln, fun x hx => (h.q.r.sl x hx).mono (by decide), fun x hx => (h.q.r.sh x hx).mono (by decide), fun d hd => (h.p.bt d hd).mono (by decide), h.lb⟩
theorem lx_scope {raw : List Nat} {P : List Dc} {L : List Lm} (h : RawOk raw) (hs : SmlA raw P L) (hw : ∀ d ∈ P, DcW d) (hlw : ∀ m ∈ L, LmW m) :
  ∃ s : Sp, (ScI s ∧ ∃ (J : Nat) (l0 : List Lm), LmsOk J l0 ∧ s.ls = l0 ++ L) ∧ LV Tryz.prog 8 [.a (.d (bysD raw)), .a (.d (dcsD P)), .a (.d (lmsD L))] (.agg s.A) := by
 suffices hh : LX Tryz.prog 8 [.a (.d (bysD raw)), .a (.d (dcsD P)), .a (.d (lmsD L))] [] fun v H => ∃ s : Sp, (ScI s ∧ ∃ (J : Nat) (l0 : List Lm), LmsOk J l0 ∧ s.ls = l0 ++ L) ∧ v = .agg s.A ∧ H = [] by
  obtain ⟨v, H', ⟨s, h1, rfl, rfl⟩, hc⟩ := hh
  exact ⟨s, h1, _, _, ⟨rfl, rfl⟩, hc⟩
 have hPl := hs.len
 have hLl := hs.ll
 obtain ⟨q, P0, ls, ⟨hq, hP0, hl0, o1, o2⟩, c⟩ := lx_derived h
 have hI0 : PthI q P0 := ⟨hP0.fit, hP0.sm, fun d hd => (hP0.bt d hd).mono (by decide), hP0.tw⟩
 refine LX_run (m := 0) (n0 := 0) mix Tryz.func8 rfl rfl rfl rfl ?_
 conv => whnf
 refine .c (c) ?_
 conv => whnf
 refine .mk (P0.map Dc.D) rfl rfl (by simp; omega) ?_
 conv => whnf
 refine .mk (Nat × List Dc) (fun (j, Q) => ⟨[(21, vl (.int .i64 (j : Nat))), (20, vl (.int .i64 (P.map Dc.D).length)), (19, .a (.d (dcsD P))), (7, .a (.ptr 1 0)), (6, .a (.ptr 0 0)), (2, .a (.d (lmsD L)))], [(0, .box 43 zSp), (1, .box 43 (Sp.A ⟨q, Q, ls⟩))], 3⟩)
  (fun b => b.1 ≤ P.length ∧ PthI q b.2 ∧ b.2.length ≤ 3 + b.1) (fun b => P.length - b.1) (0, P0) (Wk.go (h2 := ⟨⟨_, rfl, wke_refl _, rfl⟩, ⟨_, rfl, ⟨_, rfl, aR_ _, aR_ _, aR_ _, aR_ _, aR_ _, aR_ _, aR_ _, aR_ _, aR_ _, aR_ _, WkA.own, aR_ _, trivial⟩, rfl⟩, trivial⟩)) ⟨zL_ _, hI0, by simp only; omega⟩ fun ⟨j, Q⟩ hb => ?_
 obtain ⟨hj, hQ, hQl⟩ := hb
 simp only at hj hQ hQl
 conv => whnf
 refine bs (fun h1 => ?_) (fun h1 => ?_)
 ·
  conv => whnf
  have h1' : j < P.length := by simpa using h1
  obtain ⟨d, hd⟩ := at_some h1'
  have hdm := mG_ hd
  obtain ⟨d4, d5⟩ := hs.dc d hdm
  obtain ⟨d6, d7⟩ := hw d hdm
  have hdb := bt_raw d4 d5 d6 d7
  have hsm : d.at_.sm := ⟨by omega, by omega⟩
  refine .mk (j) (d.D) (rfl) (at_map hd) ?_
  conv => whnf
  conv => whnf
  refine .c (lx_zFits hq.ok hsm) ?_
  conv => whnf
  refine bs (fun h2 => ?_) (fun h2 => ?_)
  ·
   conv => whnf
   refine .c (lx_zextend (l := Q) (by omega) hQ.sm hsm) ?_
   conv => whnf
   refine bs (fun h3 => ?_) (fun h3 => ?_)
   ·
    conv => whnf
    have h3' : extE Q d = 0 := by simpa using h3
    obtain ⟨t1, t2⟩ := ext_tw h3'
    rw [t2]
    exact ⟨(j + 1, Q ++ [d]), Wk.go, ⟨h1', hQ.snoc h2 hsm hdb t1, by simp; omega⟩, by simp only; omega⟩
   ·
    conv => whnf
    exact ⟨(j + 1, Q), Wk.go, ⟨h1', hQ, by simp only; omega⟩, by simp only; omega⟩
  ·
   conv => whnf
   exact ⟨(j + 1, Q), Wk.go, ⟨h1', hQ, by simp only; omega⟩, by simp only; omega⟩
 ·
  conv => whnf
  refine .mk (ls.map Lm.D) rfl rfl (by simp; omega) ?_
  conv => whnf
  refine .mk ((ls ++ L).map Lm.D) rfl (by rw [List.map_append]) (by simp; omega) ?_
  conv => whnf
  have hsm : ∀ m ∈ ls ++ L, m.v.sm ∧ Bt 300000000 m.v.q := fun m hm => by
   rcases List.mem_append.1 hm with h5 | h5
   ·
    obtain ⟨_, _, ⟨x, e, hx⟩, _⟩ := o1 m h5
    have hb := beta_le m.u.toNat
    rw [e, can_q]
    exact ⟨Sz.sm (hx.mono (by omega)), hx.mono (by omega)⟩
   ·
    obtain ⟨w1, w2, _⟩ := hlw m h5
    obtain ⟨w3, w4⟩ := hs.lm m h5
    exact ⟨⟨by omega, by omega⟩, (bt_raw w3 w4 w1 w2).mono (by decide)⟩
  exact .s ⟨⟨q, Q, ls ++ L⟩, ⟨⟨hq, hQ, by simp only; omega, by simp; omega, fun m hm => (hsm m hm).1, fun m hm => (hsm m hm).2⟩, q.g.us.length, ls, o1, rfl⟩, rfl, rfl⟩
def vB : Nat → Nat
 | 0 => 50
 | j + 1 => 7 * vB j + 60
structure RawOk' (raw : List Nat) : Prop where
 len : raw.length ≤ 1099511627776
 by_ : ∀ b ∈ raw, b < 256
abbrev zQu : List A := [.d (.lit (.int .i64 0)), .d (.lit (.slice none 0 0)), .d (.lit (.slice none 0 0)), .d (.lit (.slice none 0 0)), .d (.lit (.slice none 0 0)), .d (.lit (.slice none 0 0)), .d (.lit (.slice none 0 0)), .d (.lit (.bool false)), .d (.nat 0), .d (.nat 0)]
theorem lx_gzero : LV Tryz.prog 61 [.agg [.d (.lit (.int .i64 0)), .d (.lit (.slice none 0 0)), .d (.lit (.slice none 0 0))]] (vl (.bool false)) := by
 refine LX_run (m := 0) (n0 := 0) mix Tryz.func61 rfl rfl rfl rfl ?_
 conv => whnf
 exact .q ⟨rfl, rfl⟩
theorem lx_qzero : LV Tryz.prog 29 [.agg zQu] (vl (.bool false)) := by
 refine LX_run (m := 0) (n0 := 0) mix Tryz.func29 rfl rfl rfl rfl ?_
 conv => whnf
 refine .c (lx_gzero) ?_
 conv => whnf
 exact .q ⟨rfl, rfl⟩
theorem lx_box0 : LV Tryz.prog 12 [.agg zSp] (.tup [.s (.d (.lit (.slice none 0 0))), .s (.d (.lit (.int .i64 1)))]) := by
 refine LX_run (m := 0) (n0 := 0) mix Tryz.func12 rfl rfl rfl rfl ?_
 conv => whnf
 refine .c (lx_qzero) ?_
 conv => whnf
 exact .q ⟨rfl, rfl⟩
theorem lx_bofi {s : Sp} {i : Nat} {up : Bool} (hs : SpOk s) (hi : i < s.q.g.n) : ∃ r : Ro, LV Tryz.prog 37 [.agg s.A, vl (.int .i64 (i : Nat)), vl (.bool up)] (.agg (bdA (inS s i up) [⟨r, q1⟩] true)) := by
 obtain ⟨r, c⟩ := lx_binput (up := up) hs hi
 have hn2 := hs.q.g.n2; have hu1 := hs.q.g.u1
 refine ⟨r, ?_⟩
 cases up
 all_goals refine LX_run (m := 0) (n0 := 0) mix Tryz.func37 rfl rfl rfl rfl ?_
           conv => whnf
 all_goals refine .c (lx_zquvalid hs.q) ?_
           conv => whnf
 all_goals refine .c (lx_zgvars hs.q.g) ?_
           conv => whnf
 all_goals refine bF (decide_eq_false (by omega)) ?_
           conv => whnf
 all_goals refine bT (decide_eq_true (by omega)) ?_
           conv => whnf
 all_goals refine .c (c) ?_
           conv => whnf
 all_goals exact .q ⟨rfl, rfl⟩
theorem bx_step {q : Qu} {l : List Iv} {d : Dc} {i : Nat} {a b : Rat} (hi : i < q.g.n) (h : l[i]? = some ⟨a, b⟩) : (bxStep q l d)[i]? = some ⟨inStep q i false a d, inStep q i true b d⟩ := by
 unfold bxStep inStep
 by_cases hf : fitB q d = true
 ·
  rw [if_pos hf]
  by_cases hk : d.k = 3 ∨ d.k = 4
  ·
   obtain ⟨i1, i2⟩ := fits_ix hf hk
   by_cases hd : d.i = i
   ·
    have e : d.i.toNat = i := by omega
    rw [e, h]
    have hl := at_lt h
    rcases hk with hk | hk
    ·
     have h4 : ¬ d.k = 4 := by omega
     simp [hk, hd, hf, hl, cond]
    ·
     have h3 : ¬ d.k = 3 := by omega
     simp [hk, hd, hf, hl, cond]
   ·
    have e : d.i.toNat ≠ i := by omega
    rw [if_neg (fun h => hd h.2.1), if_neg (fun h => hd h.2.1)]
    split
    ·
     split
     ·
      rw [List.getElem?_set_ne e]; exact h
     ·
      split
      ·
       rw [List.getElem?_set_ne e]; exact h
      ·
       exact h
    ·
     exact h
  ·
   have h3 : ¬ d.k = 3 := fun h => hk (.inl h)
   have h4 : ¬ d.k = 4 := fun h => hk (.inr h)
   rw [if_neg (fun h => h3 h.1), if_neg (fun h => h4 h.1)]
   split
   ·
    rw [if_neg h3, if_neg h4]; exact h
   ·
    exact h
 ·
  rw [if_neg hf, if_neg (fun h => hf h.2.2), if_neg (fun h => hf h.2.2)]; exact h
theorem bx_at {s : Sp} (hs : SpOk s) {i : Nat} (hi : i < s.q.g.n) : ∀ k, k ≤ s.path.length → ((s.path.take k).foldl (bxStep s.q) (ivs0 s.q.r))[i]? = some ⟨inTo s i false k, inTo s i true k⟩
 | 0, _ => by
   have hlo := hs.q.r.lo; have hhi := hs.q.r.hi
   obtain ⟨x, hx⟩ := at_some (l := s.q.r.lo) (i := i) (by omega)
   obtain ⟨y, hy⟩ := at_some (l := s.q.r.hi) (i := i) (by omega)
   have e1 : inTo s i false 0 = x := by show atQ s.q.r.lo i = x; unfold atQ; rw [Int.toNat_natCast, hx]; rfl
   have e2 : inTo s i true 0 = y := by show atQ s.q.r.hi i = y; unfold atQ; rw [Int.toNat_natCast, hy]; rfl
   rw [e1, e2, List.take_zero]
   show (ivs0 s.q.r)[i]? = _
   rw [ivs0, List.getElem?_zipWith_eq_some]
   exact ⟨x, y, hx, hy, rfl⟩
 | k + 1, hk => by
   obtain ⟨d, hd⟩ := at_some (l := s.path) (i := k) (by omega)
   rw [take_snoc hd, List.foldl_append, inTo_succ hd, inTo_succ hd]
   exact bx_step hi (bx_at hs hi k (by omega))
theorem bxS_at {s : Sp} (hs : SpOk s) {i : Nat} (hi : i < s.q.g.n) : (bxS s)[i]? = some ⟨inS s i false, inS s i true⟩ := by
 have h := bx_at hs hi s.path.length (lR_ _)
 rw [List.take_length] at h
 exact h
theorem lx_zbox {s : Sp} (hs : SpOk s) : LV Tryz.prog 13 [.agg s.A] (.tup [.s (.d (ivsD (bxR s))), .s (.d (.lit (.int .i64 (bxE s))))]) := by
 have hn2 := hs.q.g.n2
 have hbl : (bxS s).length = s.q.g.n := bx_len hs s.path
 refine LX_run (m := 0) (n0 := 0) mix Tryz.func13 rfl rfl rfl rfl ?_
 conv => whnf
 refine .c (lx_zquvalid hs.q) ?_
 conv => whnf
 refine .mk Nat (fun i => ⟨[(5, vl (.int .i64 (i : Nat))), (4, .a (.own 1 6 (((bxS s).take i).map Iv.D))), (1, .a (.ptr 0 0))], [(0, .box 43 s.A), (1, .arr 82 6 (((bxS s).take i).map Iv.D).length)], 2⟩) (fun i => i ≤ s.q.g.n ∧ ∀ (j : Nat) v, j < i → (bxS s)[j]? = some v → ivBad v = false) (fun i => s.q.g.n - i) 0 (Wk.trans (Wk.own 4 1 82 6 rfl rfl (zL_ _)) Wk.go) ⟨zL_ _, fun j v h => by omega⟩ fun i hb => ?_
 obtain ⟨hi, hall⟩ := hb
 conv => whnf
 refine bs (fun h1 => ?_) (fun h1 => ?_)
 ·
  conv => whnf
  have h1' : i < s.q.g.n := by have := of_decide_eq_true h1; omega
  obtain ⟨r1, c1⟩ := lx_bofi (up := false) hs h1'
  obtain ⟨r2, c2⟩ := lx_bofi (up := true) hs h1'
  have hv := bxS_at hs h1'
  have b1 : Bt 300000000 (inS s i false) := inTo_b hs.rlo hs.rhi hs.pb _
  have b2 : Bt 300000000 (inS s i true) := inTo_b hs.rlo hs.rhi hs.pb _
  generalize inS s i false = lo at *
  generalize inS s i true = hi' at *
  refine .c (c1) ?_
  conv => whnf
  refine .c (c2) ?_
  conv => whnf
  refine .mk (by kernel_rfl) ?_
  conv => whnf
  refine .c (lx_zcmp (.c (b1.mono (by decide))) (.c (b2.mono (by decide)))) ?_
  conv => whnf
  refine bs (fun h2 => ?_) (fun h2 => ?_)
  ·
   conv => whnf
   have hbad : (bxS s).any ivBad = true := any_true hv h2
   exact .mk _ [] ⟨rfl, rfl⟩ (WkV.tup ⟨by rw [bxR, if_pos hbad]; exact WkA.nil, by rw [bxE, if_pos hbad]; exact aR_ _, trivial⟩) rfl trivial rfl
  ·
   conv => whnf
   refine .c (lx_zcanon (.c (b1.mono (by decide)))) ?_
   conv => whnf
   refine .c (lx_zcanon (.c (b2.mono (by decide)))) ?_
   conv => whnf
   refine .mk (((bxS s).take (i + 1)).map Iv.D) rfl (by rw [take_snoc hv, List.map_append]; rfl) (by simp; omega) ?_
   conv => whnf
   refine .mk (by kernel_rfl) ?_
   conv => whnf
   refine ⟨i + 1, Wk.go, ⟨h1', fun j v hj hy => ?_⟩, by omega⟩
   rcases Nat.lt_succ_iff_lt_or_eq.1 hj with h3 | h3
   ·
    exact hall j v h3 hy
   ·
    subst h3; rw [hv] at hy; injection hy with hy; rw [← hy]; exact h2
 ·
  conv => whnf
  have e : i = s.q.g.n := by have := of_decide_eq_false h1; omega
  have hok : (bxS s).any ivBad = false := any_none fun j y hy => hall j y (by have := at_lt hy; omega) hy
  have e2 : (bxS s).take i = bxS s := List.take_of_length_le (by omega)
  rw [e2]
  exact .s ⟨by rw [bxR, bxE, if_neg (by rw [hok]; exact Bool.false_ne_true), if_neg (by rw [hok]; exact Bool.false_ne_true)]; rfl, rfl⟩
theorem eq_self (x : Rw) : x.eq x = true := Rw.eq_iff.2 rfl
theorem lx_same_iv {l : List Iv} (hl : l.length ≤ 1000) : LV Tryz.prog 14 [.a (.d (ivsD l)), .a (.d (ivsD l))] (vl (.bool true)) := by
 refine LX_run (m := 0) (n0 := 0) mix Tryz.func14 rfl rfl rfl rfl ?_
 conv => whnf
 refine bF (by simp) ?_
 conv => whnf
 refine .mk Nat (fun i => ⟨[(5, vl (.int .i64 (i : Nat))), (1, .a (.d (ivsD l))), (0, .a (.d (ivsD l)))], [], 0⟩) (fun i => i ≤ l.length) (fun i => l.length - i) 0 Wk.go (zL_ _) fun i hi => ?_
 conv => whnf
 refine bs (fun h1 => ?_) (fun h1 => ?_)
 ·
  conv => whnf
  have h1' : i < l.length := by simpa using h1
  obtain ⟨v, hv⟩ := at_some h1'
  have s1 := lx_zsame2 (x := can v.lo) (y := can v.lo)
  have s2 := lx_zsame2 (x := can v.hi) (y := can v.hi)
  rw [eq_self] at s1 s2
  repeat' first | (refine bs (fun h => ?_) (fun h => ?_) <;> conv => whnf) | (refine Nc.mk (by kernel_rfl) ?_; conv => whnf) | (refine .c (s1) ?_; conv => whnf) | (refine .c (s2) ?_; conv => whnf) | (refine .mk i v.D rfl (at_map hv) ?_; conv => whnf)
  exact ⟨i + 1, Wk.go, h1', by omega⟩
 ·
  conv => whnf
  exact .q ⟨rfl, rfl⟩
theorem lx_boxlaw {raw : List Nat} {P : List Dc} (hr : RawOk' raw) (hP : P.length ≤ 1099511627776) (hw : ∀ d ∈ P, DcW d) : LV Tryz.prog 4 [.a (.d (bysD raw)), .a (.d (dcsD P))] (vl (.bool true)) := by
 have hrl := hr.len
 obtain ⟨b, hb, cl⟩ := lx_large (raw := raw) (P := P) (L := []) (fun m h => by cases h) (by simp) hP hrl
 have cl' : LV Tryz.prog 7 [.a (.d (bysD raw)), .a (.d (dcsD P)), .a (.d (.lit (.slice none 0 0)))] (vl (.bool b)) := cl.wk ⟨vR_ _, vR_ _, WkV.of WkA.nil, trivial⟩
 refine LX_run (m := 0) (n0 := 0) mix Tryz.func4 rfl rfl rfl rfl ?_
 conv => whnf
 refine .c (lx_awake) ?_
 conv => whnf
 refine .c (cl') ?_
 conv => whnf
 refine bs (fun h1 => ?_) (fun h1 => ?_)
 ·
  conv => whnf
  exact .q ⟨rfl, rfl⟩
 ·
  conv => whnf
  have hs := hb h1
  obtain ⟨s, ⟨hI, _⟩, cs⟩ := lx_scope ⟨by have := hs.raw; omega, hr.by_⟩ hs hw (fun m h => by cases h)
  have cs' := cs.wk (args := [.a (.d (bysD raw)), .a (.d (dcsD P)), .a (.d (.lit (.slice none 0 0)))]) ⟨vR_ _, vR_ _, WkV.of WkA.nil, trivial⟩
  have hlen : (bxR s).length ≤ 1000 := by
   have h : (bxS s).length = s.q.g.n := bx_len hI.sp s.path
   have hn := hI.sp.q.g.n2
   unfold bxR
   split
   ·
    simp
   ·
    omega
  refine .c (cs') ?_
  conv => whnf
  refine .c (lx_box hI.sp) ?_
  conv => whnf
  refine .c (lx_zbox hI.sp) ?_
  conv => whnf
  refine .c (lx_box0) ?_
  conv => whnf
  refine bT (by simp) ?_
  conv => whnf
  refine .c (lx_same_iv hlen) ?_
  conv => whnf
  exact .q ⟨rfl, rfl⟩
end Go.Proofs.YtikglhmabidjoaaGreat.Lf
