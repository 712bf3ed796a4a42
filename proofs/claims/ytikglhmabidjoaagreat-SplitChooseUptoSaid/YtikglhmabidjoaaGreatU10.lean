/- Texts LiL LiM LiN LiO LiP LiQ LjA LjB LjC LjD of this proof, in this order. -/
import Derived.Test.YtikglhmabidjoaaGreatU08
import Derived.Test.YtikglhmabidjoaaGreatU07
set_option linter.unusedVariables false
set_option linter.unusedSimpArgs false
set_option maxRecDepth 100000
set_option maxHeartbeats 4000000
namespace Go.Proofs.YtikglhmabidjoaaGreat.Lf
open Go.RowKit Nt
structure PthI (q : Qu) (P : List Dc) : Prop where
 fit : ∀ d ∈ P, fitB q d = true
 sm : ∀ d ∈ P, d.at_.sm
 bt : ∀ d ∈ P, Bt 128 d.at_.q
 tw : twB P = false
theorem PthI.snoc {q : Qu} {P : List Dc} {d : Dc} (h : PthI q P) (hf : fitB q d = true) (hs : d.at_.sm) (hb : Bt 128 d.at_.q) (ht : twB (P ++ [d]) = false) : PthI q (P ++ [d]) := by
 refine ⟨fun x hx => ?_, fun x hx => ?_, fun x hx => ?_, ht⟩
 ·
  rcases List.mem_append.1 hx with h5 | h5
  ·
   exact h.fit x h5
  ·
   rw [List.mem_singleton.1 h5]; exact hf
 ·
  rcases List.mem_append.1 hx with h5 | h5
  ·
   exact h.sm x h5
  ·
   rw [List.mem_singleton.1 h5]; exact hs
 ·
  rcases List.mem_append.1 hx with h5 | h5
  ·
   exact h.bt x h5
  ·
   rw [List.mem_singleton.1 h5]; exact hb
theorem ext_tw {P : List Dc} {d : Dc} (h : extE P d = 0) : twB (P ++ [d]) = false ∧ extP P d = P ++ [d] := by
 refine ⟨?_, by rw [extP, if_pos h]⟩
 unfold extE at h
 repeat' split at h
 all_goals first | omega | simp_all
structure ScI (s : Sp) : Prop where
 q : QuB s.q
 p : PthI s.q s.path
 pl : s.path.length ≤ 13
 ll : s.ls.length ≤ 40
 ln : ∀ m ∈ s.ls, m.v.sm
 lb : ∀ m ∈ s.ls, Bt 300000000 m.v.q
theorem ScI.sp {s : Sp} (h : ScI s) : SpOk s :=
 ⟨h.q.ok, tL_ h.pl (by decide), h.p.sm, tL_ h.ll (by decide), h.ln, fun x hx => (h.q.r.sl x hx).mono (by decide), fun x hx => (h.q.r.sh x hx).mono (by decide), fun d hd => (h.p.bt d hd).mono (by decide), h.lb⟩
theorem lx_scope {raw : List Nat} {P : List Dc} {L : List Lm} (h : RawOk raw) (hs : SmlA raw P L) (hw : ∀ d ∈ P, DcW d) (hlw : ∀ m ∈ L, LmW m) :
  ∃ s : Sp, (ScI s ∧ ∃ (J : Nat) (l0 : List Lm), LmsOk J l0 ∧ s.ls = l0 ++ L) ∧ LV Tryz.prog 8 [.a (.d (bysD raw)), .a (.d (dcsD P)), .a (.d (lmsD L))] (.agg s.A) := by
 suffices hh : LX Tryz.prog 8 [.a (.d (bysD raw)), .a (.d (dcsD P)), .a (.d (lmsD L))] [] fun v H => ∃ s : Sp, (ScI s ∧ ∃ (J : Nat) (l0 : List Lm), LmsOk J l0 ∧ s.ls = l0 ++ L) ∧ v = .agg s.A ∧ H = [] by
  obtain ⟨v, H', ⟨s, h1, rfl, rfl⟩, hc⟩ := hh
  exact ⟨s, h1, _, _, ⟨rfl, rfl⟩, hc⟩
 have hPl := hs.len
 have hLl := hs.ll
 obtain ⟨q, P0, ls, ⟨hq, hP0, hl0, o1, o2⟩, c⟩ := lx_derived h
 have hI0 : PthI q P0 := ⟨hP0.fit, hP0.sm, fun d hd => (hP0.bt d hd).mono (by decide), hP0.tw⟩
 refine LX_run (m := 0) (n0 := 0) mix Tryz.func8 rfl rfl rfl rfl ?_
 conv => whnf
 refine .c (c) ?_
 conv => whnf
 refine .mk (P0.map Dc.D) rfl rfl (by simp; omega) ?_
 conv => whnf
 refine .mk (Nat × List Dc) (fun (j, Q) => ⟨[(21, vl (.int .i64 (j : Nat))), (20, vl (.int .i64 (P.map Dc.D).length)), (19, .a (.d (dcsD P))), (7, .a (.ptr 1 0)), (6, .a (.ptr 0 0)), (2, .a (.d (lmsD L)))], [(0, .box 43 zSp), (1, .box 43 (Sp.A ⟨q, Q, ls⟩))], 3⟩)
  (fun b => b.1 ≤ P.length ∧ PthI q b.2 ∧ b.2.length ≤ 3 + b.1) (fun b => P.length - b.1) (0, P0) (Wk.go (h2 := ⟨⟨_, rfl, wke_refl _, rfl⟩, ⟨_, rfl, ⟨_, rfl, aR_ _, aR_ _, aR_ _, aR_ _, aR_ _, aR_ _, aR_ _, aR_ _, aR_ _, aR_ _, WkA.own, aR_ _, trivial⟩, rfl⟩, trivial⟩)) ⟨zL_ _, hI0, by simp only; omega⟩ fun ⟨j, Q⟩ hb => ?_
 obtain ⟨hj, hQ, hQl⟩ := hb
 simp only at hj hQ hQl
 conv => whnf
 refine bs (fun h1 => ?_) (fun h1 => ?_)
 ·
  conv => whnf
  have h1' : j < P.length := by simpa using h1
  obtain ⟨d, hd⟩ := at_some h1'
  have hdm := mG_ hd
  obtain ⟨d4, d5⟩ := hs.dc d hdm
  obtain ⟨d6, d7⟩ := hw d hdm
  have hdb := bt_raw d4 d5 d6 d7
  have hsm : d.at_.sm := ⟨by omega, by omega⟩
  refine .mk (j) (d.D) (rfl) (at_map hd) ?_
  conv => whnf
  conv => whnf
  refine .c (lx_zFits hq.ok hsm) ?_
  conv => whnf
  refine bs (fun h2 => ?_) (fun h2 => ?_)
  ·
   conv => whnf
   refine .c (lx_zextend (l := Q) (by omega) hQ.sm hsm) ?_
   conv => whnf
   refine bs (fun h3 => ?_) (fun h3 => ?_)
   ·
    conv => whnf
    have h3' : extE Q d = 0 := by simpa using h3
    obtain ⟨t1, t2⟩ := ext_tw h3'
    rw [t2]
    exact ⟨(j + 1, Q ++ [d]), Wk.go, ⟨h1', hQ.snoc h2 hsm hdb t1, by simp; omega⟩, by simp only; omega⟩
   ·
    conv => whnf
    exact ⟨(j + 1, Q), Wk.go, ⟨h1', hQ, by simp only; omega⟩, by simp only; omega⟩
  ·
   conv => whnf
   exact ⟨(j + 1, Q), Wk.go, ⟨h1', hQ, by simp only; omega⟩, by simp only; omega⟩
 ·
  conv => whnf
  refine .mk (ls.map Lm.D) rfl rfl (by simp; omega) ?_
  conv => whnf
  refine .mk ((ls ++ L).map Lm.D) rfl (by rw [List.map_append]) (by simp; omega) ?_
  conv => whnf
  have hsm : ∀ m ∈ ls ++ L, m.v.sm ∧ Bt 300000000 m.v.q := fun m hm => by
   rcases List.mem_append.1 hm with h5 | h5
   ·
    obtain ⟨_, _, ⟨x, e, hx⟩, _⟩ := o1 m h5
    have hb := beta_le m.u.toNat
    rw [e, can_q]
    exact ⟨Sz.sm (hx.mono (by omega)), hx.mono (by omega)⟩
   ·
    obtain ⟨w1, w2, _⟩ := hlw m h5
    obtain ⟨w3, w4⟩ := hs.lm m h5
    exact ⟨⟨by omega, by omega⟩, (bt_raw w3 w4 w1 w2).mono (by decide)⟩
  exact .s ⟨⟨q, Q, ls ++ L⟩, ⟨⟨hq, hQ, by simp only; omega, by simp; omega, fun m hm => (hsm m hm).1, fun m hm => (hsm m hm).2⟩, q.g.us.length, ls, o1, rfl⟩, rfl, rfl⟩
def RsB (K : Nat) (v : List Rat) : Prop := ∀ q ∈ v, Bt K q
theorem RQ0 : RQ (V.agg [A.d (.lit (.bool false)), .d (.lm (limbs 0)), .d (.lm (limbs 0))]) 0 := by rw [rat0V]; exact .c sz0
def vB : Nat → Nat
 | 0 => 50
 | j + 1 => 7 * vB j + 60
structure RawOk' (raw : List Nat) : Prop where
 len : raw.length ≤ 1099511627776
 by_ : ∀ b ∈ raw, b < 256
theorem lx_zopen {s : Sp} (hs : SpOk s) : LV Tryz.prog 9 [.agg s.A] (.a (.d (natsD (openS s)))) := by
 have hu1 := hs.q.g.u1
 have hol := fun j => openTo_len s j
 refine LX_run (m := 0) (n0 := 0) mix Tryz.func9 rfl rfl rfl rfl ?_
 conv => whnf
 refine .c (lx_zquvalid hs.q) ?_
 conv => whnf
 refine .mk Nat (fun j => ⟨[(4, vl (.int .i64 (j : Nat))), (3, .a (.own 1 1 ((openTo s j).map fun j => [D.lit (encN j)]))), (1, .a (.ptr 0 0))], [(0, .box 43 s.A), (1, .arr 3 1 ((openTo s j).map fun j => [D.lit (encN j)]).length)], 2⟩) (fun j => j ≤ s.q.g.us.length) (fun j => s.q.g.us.length - j) 0 (Wk.trans (Wk.own 3 1 3 1 rfl rfl (zL_ _)) Wk.go) (zL_ _) fun j hj => ?_
 have hoj := hol j
 have hsu := openTo_succ s j
 conv => whnf
 refine bs (fun h1 => ?_) (fun h1 => ?_)
 ·
  conv => whnf
  have h1' : j < s.q.g.us.length := by simpa using h1
  refine .c (lx_zphase hs) ?_
  conv => whnf
  refine bs (fun h2 => ?_) (fun h2 => ?_)
  ·
   conv => whnf
   have e : openB s j = true := h2
   rw [if_pos e] at hsu
   refine .mk ((openTo s (j + 1)).map fun j => [D.lit (encN j)]) rfl (by rw [hsu, List.map_append]; rfl) (by rw [List.length_map, hsu]; simp; omega) ?_
   conv => whnf
   exact ⟨j + 1, Wk.go, h1', by omega⟩
  ·
   conv => whnf
   have e : ¬ openB s j = true := by show ¬ (phaseS s j == 0) = true; rw [h2]; exact Bool.false_ne_true
   rw [if_neg e] at hsu
   exact ⟨j + 1, by rw [hsu]; exact Wk.go, h1', by omega⟩
 ·
  conv => whnf
  have e : j = s.q.g.us.length := by simp at h1; omega
  subst e
  exact .s ⟨rfl, rfl⟩
abbrev zQu : List A := [.d (.lit (.int .i64 0)), .d (.lit (.slice none 0 0)), .d (.lit (.slice none 0 0)), .d (.lit (.slice none 0 0)), .d (.lit (.slice none 0 0)), .d (.lit (.slice none 0 0)), .d (.lit (.slice none 0 0)), .d (.lit (.bool false)), .d (.nat 0), .d (.nat 0)]
theorem lx_gzero : LV Tryz.prog 61 [.agg [.d (.lit (.int .i64 0)), .d (.lit (.slice none 0 0)), .d (.lit (.slice none 0 0))]] (vl (.bool false)) := by
 refine LX_run (m := 0) (n0 := 0) mix Tryz.func61 rfl rfl rfl rfl ?_
 conv => whnf
 exact .q ⟨rfl, rfl⟩
theorem lx_qzero : LV Tryz.prog 29 [.agg zQu] (vl (.bool false)) := by
 refine LX_run (m := 0) (n0 := 0) mix Tryz.func29 rfl rfl rfl rfl ?_
 conv => whnf
 refine .c (lx_gzero) ?_
 conv => whnf
 exact .q ⟨rfl, rfl⟩
theorem lx_bofi {s : Sp} {i : Nat} {up : Bool} (hs : SpOk s) (hi : i < s.q.g.n) : ∃ r : Ro, LV Tryz.prog 37 [.agg s.A, vl (.int .i64 (i : Nat)), vl (.bool up)] (.agg (bdA (inS s i up) [⟨r, q1⟩] true)) := by
 obtain ⟨r, c⟩ := lx_binput (up := up) hs hi
 have hn2 := hs.q.g.n2; have hu1 := hs.q.g.u1
 refine ⟨r, ?_⟩
 cases up
 all_goals refine LX_run (m := 0) (n0 := 0) mix Tryz.func37 rfl rfl rfl rfl ?_
           conv => whnf
 all_goals refine .c (lx_zquvalid hs.q) ?_
           conv => whnf
 all_goals refine .c (lx_zgvars hs.q.g) ?_
           conv => whnf
 all_goals refine bF (decide_eq_false (by omega)) ?_
           conv => whnf
 all_goals refine bT (decide_eq_true (by omega)) ?_
           conv => whnf
 all_goals refine .c (c) ?_
           conv => whnf
 all_goals exact .q ⟨rfl, rfl⟩
theorem bx_step {q : Qu} {l : List Iv} {d : Dc} {i : Nat} {a b : Rat} (hi : i < q.g.n) (h : l[i]? = some ⟨a, b⟩) : (bxStep q l d)[i]? = some ⟨inStep q i false a d, inStep q i true b d⟩ := by
 unfold bxStep inStep
 by_cases hf : fitB q d = true
 ·
  rw [if_pos hf]
  by_cases hk : d.k = 3 ∨ d.k = 4
  ·
   obtain ⟨i1, i2⟩ := fits_ix hf hk
   by_cases hd : d.i = i
   ·
    have e : d.i.toNat = i := by omega
    rw [e, h]
    have hl := at_lt h
    rcases hk with hk | hk
    ·
     have h4 : ¬ d.k = 4 := by omega
     simp [hk, hd, hf, hl, cond]
    ·
     have h3 : ¬ d.k = 3 := by omega
     simp [hk, hd, hf, hl, cond]
   ·
    have e : d.i.toNat ≠ i := by omega
    rw [if_neg (fun h => hd h.2.1), if_neg (fun h => hd h.2.1)]
    split
    ·
     split
     ·
      rw [List.getElem?_set_ne e]; exact h
     ·
      split
      ·
       rw [List.getElem?_set_ne e]; exact h
      ·
       exact h
    ·
     exact h
  ·
   have h3 : ¬ d.k = 3 := fun h => hk (.inl h)
   have h4 : ¬ d.k = 4 := fun h => hk (.inr h)
   rw [if_neg (fun h => h3 h.1), if_neg (fun h => h4 h.1)]
   split
   ·
    rw [if_neg h3, if_neg h4]; exact h
   ·
    exact h
 ·
  rw [if_neg hf, if_neg (fun h => hf h.2.2), if_neg (fun h => hf h.2.2)]; exact h
theorem bx_at {s : Sp} (hs : SpOk s) {i : Nat} (hi : i < s.q.g.n) : ∀ k, k ≤ s.path.length → ((s.path.take k).foldl (bxStep s.q) (ivs0 s.q.r))[i]? = some ⟨inTo s i false k, inTo s i true k⟩
 | 0, _ => by
   have hlo := hs.q.r.lo; have hhi := hs.q.r.hi
   obtain ⟨x, hx⟩ := at_some (l := s.q.r.lo) (i := i) (by omega)
   obtain ⟨y, hy⟩ := at_some (l := s.q.r.hi) (i := i) (by omega)
   have e1 : inTo s i false 0 = x := by show atQ s.q.r.lo i = x; unfold atQ; rw [Int.toNat_natCast, hx]; rfl
   have e2 : inTo s i true 0 = y := by show atQ s.q.r.hi i = y; unfold atQ; rw [Int.toNat_natCast, hy]; rfl
   rw [e1, e2, List.take_zero]
   show (ivs0 s.q.r)[i]? = _
   rw [ivs0, List.getElem?_zipWith_eq_some]
   exact ⟨x, y, hx, hy, rfl⟩
 | k + 1, hk => by
   obtain ⟨d, hd⟩ := at_some (l := s.path) (i := k) (by omega)
   rw [take_snoc hd, List.foldl_append, inTo_succ hd, inTo_succ hd]
   exact bx_step hi (bx_at hs hi k (by omega))
theorem bxS_at {s : Sp} (hs : SpOk s) {i : Nat} (hi : i < s.q.g.n) : (bxS s)[i]? = some ⟨inS s i false, inS s i true⟩ := by
 have h := bx_at hs hi s.path.length (lR_ _)
 rw [List.take_length] at h
 exact h
theorem lx_zbox {s : Sp} (hs : SpOk s) : LV Tryz.prog 13 [.agg s.A] (.tup [.s (.d (ivsD (bxR s))), .s (.d (.lit (.int .i64 (bxE s))))]) := by
 have hn2 := hs.q.g.n2
 have hbl : (bxS s).length = s.q.g.n := bx_len hs s.path
 refine LX_run (m := 0) (n0 := 0) mix Tryz.func13 rfl rfl rfl rfl ?_
 conv => whnf
 refine .c (lx_zquvalid hs.q) ?_
 conv => whnf
 refine .mk Nat (fun i => ⟨[(5, vl (.int .i64 (i : Nat))), (4, .a (.own 1 6 (((bxS s).take i).map Iv.D))), (1, .a (.ptr 0 0))], [(0, .box 43 s.A), (1, .arr 82 6 (((bxS s).take i).map Iv.D).length)], 2⟩) (fun i => i ≤ s.q.g.n ∧ ∀ (j : Nat) v, j < i → (bxS s)[j]? = some v → ivBad v = false) (fun i => s.q.g.n - i) 0 (Wk.trans (Wk.own 4 1 82 6 rfl rfl (zL_ _)) Wk.go) ⟨zL_ _, fun j v h => by omega⟩ fun i hb => ?_
 obtain ⟨hi, hall⟩ := hb
 conv => whnf
 refine bs (fun h1 => ?_) (fun h1 => ?_)
 ·
  conv => whnf
  have h1' : i < s.q.g.n := by have := of_decide_eq_true h1; omega
  obtain ⟨r1, c1⟩ := lx_bofi (up := false) hs h1'
  obtain ⟨r2, c2⟩ := lx_bofi (up := true) hs h1'
  have hv := bxS_at hs h1'
  have b1 : Bt 300000000 (inS s i false) := inTo_b hs.rlo hs.rhi hs.pb _
  have b2 : Bt 300000000 (inS s i true) := inTo_b hs.rlo hs.rhi hs.pb _
  generalize inS s i false = lo at *
  generalize inS s i true = hi' at *
  refine .c (c1) ?_
  conv => whnf
  refine .c (c2) ?_
  conv => whnf
  refine .mk (by kernel_rfl) ?_
  conv => whnf
  refine .c (lx_zcmp (.c (b1.mono (by decide))) (.c (b2.mono (by decide)))) ?_
  conv => whnf
  refine bs (fun h2 => ?_) (fun h2 => ?_)
  ·
   conv => whnf
   have hbad : (bxS s).any ivBad = true := any_true hv h2
   exact .mk _ [] ⟨rfl, rfl⟩ (WkV.tup ⟨by rw [bxR, if_pos hbad]; exact WkA.nil, by rw [bxE, if_pos hbad]; exact aR_ _, trivial⟩) rfl trivial rfl
  ·
   conv => whnf
   refine .c (lx_zcanon (.c (b1.mono (by decide)))) ?_
   conv => whnf
   refine .c (lx_zcanon (.c (b2.mono (by decide)))) ?_
   conv => whnf
   refine .mk (((bxS s).take (i + 1)).map Iv.D) rfl (by rw [take_snoc hv, List.map_append]; rfl) (by simp; omega) ?_
   conv => whnf
   refine .mk (by kernel_rfl) ?_
   conv => whnf
   refine ⟨i + 1, Wk.go, ⟨h1', fun j v hj hy => ?_⟩, by omega⟩
   rcases Nat.lt_succ_iff_lt_or_eq.1 hj with h3 | h3
   ·
    exact hall j v h3 hy
   ·
    subst h3; rw [hv] at hy; injection hy with hy; rw [← hy]; exact h2
 ·
  conv => whnf
  have e : i = s.q.g.n := by have := of_decide_eq_false h1; omega
  have hok : (bxS s).any ivBad = false := any_none fun j y hy => hall j y (by have := at_lt hy; omega) hy
  have e2 : (bxS s).take i = bxS s := List.take_of_length_le (by omega)
  rw [e2]
  exact .s ⟨by rw [bxR, bxE, if_neg (by rw [hok]; exact Bool.false_ne_true), if_neg (by rw [hok]; exact Bool.false_ne_true)]; rfl, rfl⟩
theorem eq_self (x : Rw) : x.eq x = true := Rw.eq_iff.2 rfl
def evStep (v : List Rat) (a : Rat) (t : Tm) : Rat := a + t.q * atQ v t.v
def evTo (f : Af) (v : List Rat) (i : Nat) : Rat := (f.ts.take i).foldl (evStep v) f.c
def evQ (f : Af) (v : List Rat) : Rat := f.ts.foldl (evStep v) f.c
theorem evTo_succ {f : Af} {v : List Rat} {i : Nat} {t : Tm} (h : f.ts[i]? = some t) : evTo f v (i + 1) = evTo f v i + t.q * atQ v t.v := by
 unfold evTo
 rw [take_snoc h, List.foldl_append]; rfl
theorem evTo_all (f : Af) (v : List Rat) : evTo f v f.ts.length = evQ f v := by unfold evTo evQ; rw [List.take_length]
theorem atQ_b {V : Nat} {v : List Rat} (h : RsB V v) (i : Int) : Bt V (atQ v i) := by
 unfold atQ
 cases hx : v[i.toNat]? with
 | none => exact bt0 _
 | some x => exact h x (mG_ hx)
theorem atQ_nat {v : List Rat} {j : Nat} {x : Rat} (h : v[j]? = some x) : atQ v (j : Int) = x := by
 unfold atQ
 rw [Int.toNat_natCast, h]; rfl
theorem evTo_b {f : Af} {v : List Rat} {n : Nat} {k V : Nat} (h : FB k n f) (hv : RsB V v) : ∀ i, i ≤ f.ts.length → Bt (k + i * (k + V + 1)) (evTo f v i)
 | 0, _ => by unfold evTo; exact h.c.mono (by omega)
 | i + 1, hi => by
   obtain ⟨t, ht⟩ := at_some (l := f.ts) (i := i) (by omega)
   rw [evTo_succ ht]
   obtain ⟨_, _, _, t4⟩ := h.tm t (mG_ ht)
   exact ((evTo_b h hv i (by omega)).add (t4.mul (atQ_b hv _))).mono (by rw [Nat.add_mul i 1, Nat.one_mul]; omega)
theorem evQ_b {f : Af} {v : List Rat} {n : Nat} {k V : Nat} (h : FB k n f) (hv : RsB V v) (hN : n ≤ 7) : Bt (k + 7 * (k + V + 1)) (evQ f v) := by
 have hlen := h.ts.len (by omega)
 have hm : f.ts.length * (k + V + 1) ≤ 7 * (k + V + 1) := Nat.mul_le_mul_right _ (by omega)
 rw [← evTo_all]
 exact (evTo_b h hv _ (lR_ _)).mono (by omega)
theorem lx_leval {f : Af} {v : List Rat} {n : Nat} {k V : Nat} (h : FB k n f) (hv : RsB V v) (hn : n ≤ v.length) (hN : n ≤ 7) (hk : k + 7 * (k + V + 1) ≤ 1000000000) :
  LV Tryz.prog 90 [.agg f.A, .a (.d (rqsD v))] (.tup [.g (can (evQ f v)).A, .s (.d (.lit (.int .i64 0)))]) := by
 have hlen := h.ts.len (by omega)
 have hall := evTo_all f v
 refine LX_run (m := 0) (n0 := 0) mix Tryz.func90 rfl rfl rfl rfl ?_
 conv => whnf
 refine .mk Nat (fun i => ⟨[(14, vl (.int .i64 (i : Nat))), (13, vl (.int .i64 (f.ts.map Tm.D).length)), (12, .a (.d (.sl 4 (f.ts.map Tm.D)))), (6, .a (.ptr 2 0)), (4, .a (.ptr 1 0)), (2, .a (.ptr 0 0)), (1, .a (.d (rqsD v)))], [(0, .box 39 f.A), (1, .box 37 [.d (.lit (.bool false)), .d (.nat 0), .d (.nat 0)]), (2, .box 37 (can (evTo f v i)).A)], 3⟩)
  (fun i => i ≤ f.ts.length) (fun i => f.ts.length - i) 0 Wk.go (zL_ _) fun i hi => ?_
 have hy := evTo_b h hv i hi
 have hm : i * (k + V + 1) ≤ 7 * (k + V + 1) := Nat.mul_le_mul_right _ (by omega)
 conv => whnf
 refine bs (fun h1 => ?_) (fun h1 => ?_)
 ·
  conv => whnf
  have h1' : i < f.ts.length := by simpa using h1
  obtain ⟨t, ht⟩ := at_some h1'
  have hs := evTo_succ (v := v) ht
  obtain ⟨t1, t2, t3, t4⟩ := h.tm t (mG_ ht)
  obtain ⟨tv, tq⟩ := t
  simp only at t1 t2 t3 t4 hs
  obtain ⟨j, rfl⟩ : ∃ j : Nat, tv = j := ⟨tv.toNat, by omega⟩
  obtain ⟨x, hx⟩ := at_some (l := v) (i := j) (by omega)
  have xb := hv x (mG_ hx)
  rw [atQ_nat hx] at hs
  generalize evTo f v i = y at *
  refine .mk (i) ((Tm.D ⟨(j : Int), tq⟩)) (rfl) (at_map ht) ?_
  conv => whnf
  conv => whnf
  refine bF (decide_eq_false (show ¬ ((j : Int) ≥ ((v.map fun q => (can q).D).length : Int)) by rw [List.length_map]; omega)) ?_
  conv => whnf
  refine .mk (j) ((can x).D) (rfl) (at_map (f := fun q => (can q).D) hx) ?_
  conv => whnf
  conv => whnf
  refine .c (lx_rmul (.c (t4.mono (by omega))) (.c (xb.mono (by omega)))) ?_
  conv => whnf
  refine .c (lx_radd (.c (hy.mono (by omega))) (.c ((t4.mul xb).mono (by omega)))) ?_
  conv => whnf
  refine .mk (by kernel_rfl) ?_
  conv => whnf
  exact ⟨i + 1, by rw [hs]; exact Wk.go, h1', by omega⟩
 ·
  conv => whnf
  have e : i = f.ts.length := by simp at h1; omega
  rw [e, hall] at hy
  rw [e, hall]
  refine .c (lx_rcanon (.c (hy.mono (by rw [e] at hm; omega)))) ?_
  conv => whnf
  exact .q ⟨rfl, rfl⟩
theorem lx_zevalQ {f : Af} {v : List Rat} {n : Nat} {k V : Nat} (h : FB k n f) (hv : RsB V v) (hn : n ≤ v.length) (hN : n ≤ 7) (hk : k + 7 * (k + V + 1) ≤ 1000000000) :
  LV Tryz.prog 136 [.agg f.A, .a (.d (rqsD v))] (.tup [.g (can (evQ f v)).A, .s (.d (.lit (.int .i64 0)))]) := by
 have hlen := h.ts.len (by omega)
 have hall := evTo_all f v
 refine LX_run (m := 0) (n0 := 0) mix Tryz.func136 rfl rfl rfl rfl ?_
 conv => whnf
 refine .mk Nat (fun i => ⟨[(7, vl (.int .i64 (i : Nat))), (6, .a (.ptr 2 0)), (4, .a (.ptr 1 0)), (2, .a (.ptr 0 0)), (1, .a (.d (rqsD v)))], [(0, .box 39 f.A), (1, .box 37 [.d (.lit (.bool false)), .d (.nat 0), .d (.nat 0)]), (2, .box 37 (can (evTo f v i)).A)], 3⟩)
  (fun i => i ≤ f.ts.length) (fun i => f.ts.length - i) 0 Wk.go (zL_ _) fun i hi => ?_
 have hy := evTo_b h hv i hi
 have hm : i * (k + V + 1) ≤ 7 * (k + V + 1) := Nat.mul_le_mul_right _ (by omega)
 conv => whnf
 refine bs (fun h1 => ?_) (fun h1 => ?_)
 ·
  conv => whnf
  have h1' : i < f.ts.length := by simpa using h1
  obtain ⟨t, ht⟩ := at_some h1'
  have hs := evTo_succ (v := v) ht
  obtain ⟨t1, t2, t3, t4⟩ := h.tm t (mG_ ht)
  obtain ⟨tv, tq⟩ := t
  simp only at t1 t2 t3 t4 hs
  obtain ⟨j, rfl⟩ : ∃ j : Nat, tv = j := ⟨tv.toNat, by omega⟩
  obtain ⟨x, hx⟩ := at_some (l := v) (i := j) (by omega)
  have xb := hv x (mG_ hx)
  rw [atQ_nat hx] at hs
  generalize evTo f v i = y at *
  refine .mk (i) ((Tm.D ⟨(j : Int), tq⟩)) (rfl) (at_map ht) ?_
  conv => whnf
  conv => whnf
  refine bF (decide_eq_false (show ¬ ((j : Int) ≥ ((v.map fun q => (can q).D).length : Int)) by rw [List.length_map]; omega)) ?_
  conv => whnf
  refine .mk (j) ((can x).D) (rfl) (at_map (f := fun q => (can q).D) hx) ?_
  conv => whnf
  conv => whnf
  refine .c (lx_zmul (.c (t4.mono (by omega))) (.c (xb.mono (by omega)))) ?_
  conv => whnf
  refine .c (lx_zadd (.c (hy.mono (by omega))) (.c ((t4.mul xb).mono (by omega)))) ?_
  conv => whnf
  refine .mk (by kernel_rfl) ?_
  conv => whnf
  exact ⟨i + 1, by rw [hs]; exact Wk.go, h1', by omega⟩
 ·
  conv => whnf
  have e : i = f.ts.length := by simp at h1; omega
  rw [e, hall]
  exact .q ⟨rfl, rfl⟩
def absQ (d : Rat) : Rat := if -d ≤ d then d else -d
def mxQ (p : Rat) : Rat := if 0 ≤ p then p else 0
theorem mxQ' (p : Rat) : (if p ≤ 0 then 0 else p) = mxQ p := by unfold mxQ; split <;> split <;> grind
theorem mxQ_b {k : Nat} {p : Rat} (h : Bt k p) : Bt k (mxQ p) := by
 unfold mxQ; split
 ·
  exact h
 ·
  exact bt0 _
theorem absQ_b {k : Nat} {p : Rat} (h : Bt k p) : Bt k (absQ p) := by
 unfold absQ; split
 ·
  exact h
 ·
  exact h.neg
theorem can_abs (d : Rat) : can (absQ d) = ⟨false, limbs d.num.natAbs, limbs (dn d)⟩ := by
 unfold absQ
 split
 ·
  rename_i h
  have h1 : decide (d < 0) = false := decide_eq_false (by grind)
  show (⟨decide (d < 0), _, _⟩ : Rw) = _
  rw [h1]
 ·
  rename_i h
  have h1 : decide (-d < 0) = false := decide_eq_false (by grind)
  show (⟨decide (-d < 0), limbs (-d).num.natAbs, limbs (dn (-d))⟩ : Rw) = _
  have h2 : dn (-d) = dn d := by unfold dn; simp [Rat.neg_num, Rat.neg_den]
  rw [h1, Rat.neg_num, Int.natAbs_neg, h2]
def unAt (s : Sp) (j : Nat) : Af := (s.q.g.us[j]?).getD ⟨[], 0⟩
def faD (s : Sp) (pt : List Rat) (j : Nat) : Rat := atQ pt ((s.q.g.n + j : Nat) : Int) - mxQ (evQ (unAt s j) pt)
def faQ (s : Sp) (pt : List Rat) (u : Int) : Rat := if u.toNat < s.q.g.us.length then absQ (faD s pt u.toNat) else 0
theorem unAt_some {s : Sp} {j : Nat} (h : j < s.q.g.us.length) : s.q.g.us[j]? = some (unAt s j) := by
 unfold unAt
 rw [List.getElem?_eq_getElem h]; rfl
theorem faQ_b {s : Sp} {pt : List Rat} (hq : QuB s.q) (hp : RsB 128 pt) (u : Int) : Bt 2000 (faQ s pt u) := by
 unfold faQ
 split
 ·
  rename_i h
  have hn2 := hq.g.n2; have hu1 := hq.g.u1
  have h1 := evQ_b (hq.g.us _ _ (unAt_some h)) hp (by omega)
  exact (absQ_b ((atQ_b hp _).sub (mxQ_b h1))).mono (by decide)
 ·
  exact bt0 _
theorem lx_zfar {s : Sp} {pt : List Rat} {j : Nat} (hs : SpOk s) (hq : QuB s.q) (hp : RsB 128 pt) (hl : pt.length = s.q.g.n + s.q.g.us.length) (hj : j < s.q.g.us.length) :
  LV Tryz.prog 93 [.agg s.A, vl (.int .i64 (j : Nat)), .a (.d (rqsD pt))] (ratV (faQ s pt j)) := by
 have hn2 := hq.g.n2; have hu1 := hq.g.u1
 have hu := unAt_some hj
 have hf := hq.g.us _ _ hu
 have hb := evQ_b hf hp (by omega)
 have hdb := ((atQ_b hp ((s.q.g.n + j : Nat) : Int)).sub (mxQ_b hb))
 obtain ⟨x, hx⟩ := at_some (l := pt) (i := s.q.g.n + j) (by omega)
 have hxq := atQ_nat hx
 have hfin : faQ s pt j = absQ (atQ pt ((s.q.g.n + j : Nat) : Int) - mxQ (evQ (unAt s j) pt)) := by
  unfold faQ
  rw [Int.toNat_natCast, if_pos hj]; rfl
 have hz := lx_zmax RQ0 (.c (hb.mono (by decide) : Sz _))
 rw [mxQ'] at hz
 rw [hxq] at hfin hdb
 have xb := hp x (mG_ hx)
 refine LX_run (m := 0) (n0 := 0) mix Tryz.func93 rfl rfl rfl rfl ?_
 conv => whnf
 refine .mk (j) ((unAt s j).D) (rfl) (at_map hu) ?_
 conv => whnf
 conv => whnf
 refine .c (lx_zevalQ hf hp (by omega) (by omega) (by decide)) ?_
 conv => whnf
 refine .mk (s.q.g.n + j) ((can x).D) (by rw [wr64 (by omega) (by omega)]; omega) (at_map (f := fun q => (can q).D) hx) ?_
 conv => whnf
 conv => whnf
 refine .c (hz) ?_
 conv => whnf
 refine .c (lx_zsub (.c (xb.mono (by decide))) (.c ((mxQ_b hb).mono (by decide)))) ?_
 conv => whnf
 refine .mk (by kernel_rfl) ?_
 conv => whnf
 exact .q ⟨by rw [hfin]; exact congrArg (fun r : Rw => V.agg r.A) (can_abs _).symm, rfl⟩
theorem lx_zzgap {s : Sp} {u : Int} (hs : SpOk s) : LV Tryz.prog 92 [.agg s.A, vl (.int .i64 u)] (ratV (gapS s u)) := by
 have hl := hs.ll
 have hle := bestTo_le s.ls u s.ls.length
 have e : bestS s u = bestTo s.ls u s.ls.length := rfl
 rw [← e] at hle
 obtain ⟨k1, k2, k3, k4⟩ := hle
 refine LX_run (m := 0) (n0 := 0) mix Tryz.func92 rfl rfl rfl rfl ?_
 conv => whnf
 refine .c (lx_zbest hs) ?_
 conv => whnf
 refine bs (fun h1 => ?_) (fun h1 => ?_)
 ·
  conv => whnf
  exact .q ⟨by rw [gapS, if_pos (.inl (by simpa using h1))]; exact rat0V, rfl⟩
 ·
  conv => whnf
  refine bs (fun h2 => ?_) (fun h2 => ?_)
  ·
   conv => whnf
   exact .q ⟨by rw [gapS, if_pos (.inr (by simpa using h2))]; exact rat0V, rfl⟩
  ·
   conv => whnf
   have p1 := pos_of h1 k1
   have p2 := pos_of h2 k3
   refine .mk (((bestS s u).1 - 1).toNat) ((atL s.ls (bestS s u).1).D) (by rw [wr64 (by omega) (by omega)]; omega) (at_map (atL_some p1 (by omega))) ?_
   conv => whnf
   conv => whnf
   refine .mk (((bestS s u).2 - 1).toNat) ((atL s.ls (bestS s u).2).D) (by rw [wr64 (by omega) (by omega)]; omega) (at_map (atL_some p2 (by omega))) ?_
   conv => whnf
   conv => whnf
   refine .c (lx_zgap (atL_sm hs.ln _) (atL_sm hs.ln _) (atL_b hs.lb _) (atL_b hs.lb _)) ?_
   conv => whnf
   refine .mk (by kernel_rfl) ?_
   conv => whnf
   exact .q ⟨by rw [gapS, if_neg (by omega)], rfl⟩
def mTo (φ : Int → Rat) (l : List Nat) : Nat → Nat × Rat
 | 0 => (0, 0)
 | k + 1 => if k = 0 ∨ decide (cmpQ (φ ((l[k]?).getD 0 : Nat)) (mTo φ l k).2 > 0) = true then ((l[k]?).getD 0, φ ((l[k]?).getD 0 : Nat)) else mTo φ l k
theorem mTo_succ {φ : Int → Rat} {l : List Nat} {k j : Nat} (h : l[k]? = some j) : mTo φ l (k + 1) = if k = 0 ∨ decide (cmpQ (φ (j : Nat)) (mTo φ l k).2 > 0) = true then (j, φ (j : Nat)) else mTo φ l k := by
 rw [mTo, h]; rfl
theorem mTo_g {φ : Int → Rat} {u : Nat} {l : List Nat} : ∀ k, k ≤ l.length → mTo φ (u :: l) (k + 1) = gTo φ u l k
 | 0, _ => by rw [mTo_succ (j := u) rfl, if_pos (.inl rfl)]; rfl
 | k + 1, hk => by
   obtain ⟨j, hj⟩ := at_some (l := l) (i := k) (by omega)
   rw [mTo_succ (j := j) (by simpa using hj), mTo_g k (by omega), gTo_succ hj, gStep]
   by_cases h : decide (cmpQ (φ (j : Nat)) (gTo φ u l k).2 > 0) = true
   ·
    rw [if_pos (.inr h), if_pos h]
   ·
    rw [if_neg (fun h2 => h2.elim (fun h3 => by omega) h), if_neg h]
theorem mTo_b {φ : Int → Rat} {l : List Nat} (h : ∀ j, Sz (φ j)) : ∀ k, Sz (mTo φ l k).2
 | 0 => sz0
 | k + 1 => by
   rw [mTo]
   split
   ·
    exact h _
   ·
    exact mTo_b h k
theorem mTo_end {φ : Int → Rat} {l : List Nat} (h : l ≠ []) : (mTo φ l l.length).1 = gMost φ l := by
 cases l with
 | nil => exact absurd rfl h
 | cons u l => rw [List.length_cons, mTo_g _ (lR_ _), gTo, List.take_length]; rfl
def byF (s : Sp) (pt : List Rat) (b : Bool) : Int → Rat := if b = true then faQ s pt else gapS s
theorem lx_zmost {s : Sp} {pt : List Rat} {b : Bool} (hs : SpOk s) (hq : QuB s.q) (hp : RsB 128 pt) (hl : b = true → pt.length = s.q.g.n + s.q.g.us.length) (ho : openS s ≠ []) :
  LV Tryz.prog 46 [.agg s.A, vl (.bool b), .a (.d (rqsD pt))] (dcV (onD (gMost (byF s pt b) (openS s)))) := by
 have hul := hs.q.g.u1
 have hln := openS_len s
 have hlt : ∀ j ∈ openS s, j < s.q.g.us.length := fun j hj => openTo_lt s s.q.g.us.length j hj
 have hφ : ∀ j, Sz (byF s pt b j) := fun j => by
  unfold byF
  split
  ·
   exact (faQ_b hq hp j).mono (by decide)
  ·
   exact (Bt.gapS hs j).mono (by decide)
 have hend := mTo_end (φ := byF s pt b) ho
 refine LX_run (m := 0) (n0 := 0) mix Tryz.func46 rfl rfl rfl rfl ?_
 conv => whnf
 refine .c (lx_zopen hs) ?_
 conv => whnf
 refine .mk Nat (fun k => ⟨[(10, vl (.int .i64 (k : Nat))), (9, .a (.ptr 2 0)), (8, vl (.int .i64 ((mTo (byF s pt b) (openS s) k).1 : Nat))), (7, .a (.d (natsD (openS s)))), (6, .a (.ptr 1 0)), (3, .a (.ptr 0 0)), (2, .a (.d (rqsD pt))), (1, vl (.bool b))], [(0, .box 43 s.A), (1, .box 59 [.d (.lit (.int .i64 0)), .d (.lit (.int .i64 0)), .d (.lit (.bool false)), .d (.nat 0), .d (.nat 0)]), (2, .box 37 (can (mTo (byF s pt b) (openS s) k).2).A)], 3⟩)
  (fun k => k ≤ (openS s).length) (fun k => (openS s).length - k) 0 (Wk.go (h2 := ⟨⟨_, rfl, wke_refl _, rfl⟩, ⟨_, rfl, wke_refl _, rfl⟩, ⟨_, rfl, ⟨_, rfl, by rw [show (mTo (byF s pt b) (openS s) 0).2 = 0 from rfl, can0]; exact ⟨aR_ _, aR_ _, aR_ _, trivial⟩⟩, rfl⟩, trivial⟩)) (zL_ _) fun k hk => ?_
 conv => whnf
 refine bs (fun h1 => ?_) (fun h1 => ?_)
 ·
  conv => whnf
  have h1' : k < (openS s).length := by simpa using h1
  obtain ⟨j, hj⟩ := at_some h1'
  have hjl := hlt j (mG_ hj)
  have hst := mTo_succ (φ := byF s pt b) hj
  have hgb := mTo_b (l := openS s) hφ k
  generalize mTo (byF s pt b) (openS s) k = a at *
  obtain ⟨bb, t⟩ := a
  refine .mk (k) ([.lit (encN j)]) (rfl) (at_map hj) ?_
  conv => whnf
  conv => whnf
  refine .c (lx_zzgap hs) ?_
  conv => whnf
  refine .mk (by kernel_rfl) ?_
  conv => whnf
  have fin : ∀ (x : Rat), x = byF s pt b (j : Nat) → (if k = 0 ∨ decide (cmpQ x t > 0) = true then (j, x) else (bb, t)) = mTo (byF s pt b) (openS s) (k + 1) := fun x hx => by rw [hst, hx]
  refine bs (fun hbt => ?_) (fun hbt => ?_)
  ·
   conv => whnf
   subst hbt
   refine .mk (k) ([.lit (encN j)]) (rfl) (at_map hj) ?_
   conv => whnf
   conv => whnf
   refine .c (lx_zfar hs hq hp (hl rfl) hjl) ?_
   conv => whnf
   refine .mk (by kernel_rfl) ?_
   conv => whnf
   refine bs (fun h2 => ?_) (fun h2 => ?_)
   ·
    conv => whnf
    have h2' : k = 0 := by simpa using h2
    refine .mk (k) ([.lit (encN j)]) (rfl) (at_map hj) ?_
    conv => whnf
    conv => whnf
    refine .mk (by kernel_rfl) ?_
    conv => whnf
    exact ⟨k + 1, by rw [← fin _ rfl, if_pos (.inl h2')]; exact Wk.go, h1', by omega⟩
   ·
    conv => whnf
    refine .c (lx_zcmp (.c (hφ j)) (.c hgb)) ?_
    conv => whnf
    refine bs (fun h3 => ?_) (fun h3 => ?_)
    ·
     conv => whnf
     refine .mk (k) ([.lit (encN j)]) (rfl) (at_map hj) ?_
     conv => whnf
     conv => whnf
     refine .mk (by kernel_rfl) ?_
     conv => whnf
     exact ⟨k + 1, by rw [← fin _ rfl, if_pos (.inr h3)]; exact Wk.go, h1', by omega⟩
    ·
     conv => whnf
     exact ⟨k + 1, by rw [← fin _ rfl, if_neg (fun h => h.elim (fun h => by simp at h2; omega) (fun h => Bool.false_ne_true (h3.symm.trans h)))]; exact Wk.go, h1', by omega⟩
  ·
   conv => whnf
   subst hbt
   refine bs (fun h2 => ?_) (fun h2 => ?_)
   ·
    conv => whnf
    have h2' : k = 0 := by simpa using h2
    refine .mk (k) ([.lit (encN j)]) (rfl) (at_map hj) ?_
    conv => whnf
    conv => whnf
    refine .mk (by kernel_rfl) ?_
    conv => whnf
    exact ⟨k + 1, by rw [← fin _ rfl, if_pos (.inl h2')]; exact Wk.go, h1', by omega⟩
   ·
    conv => whnf
    refine .c (lx_zcmp (.c (hφ j)) (.c hgb)) ?_
    conv => whnf
    refine bs (fun h3 => ?_) (fun h3 => ?_)
    ·
     conv => whnf
     refine .mk (k) ([.lit (encN j)]) (rfl) (at_map hj) ?_
     conv => whnf
     conv => whnf
     refine .mk (by kernel_rfl) ?_
     conv => whnf
     exact ⟨k + 1, by rw [← fin _ rfl, if_pos (.inr h3)]; exact Wk.go, h1', by omega⟩
    ·
     conv => whnf
     exact ⟨k + 1, by rw [← fin _ rfl, if_neg (fun h => h.elim (fun h => by simp at h2; omega) (fun h => Bool.false_ne_true (h3.symm.trans h)))]; exact Wk.go, h1', by omega⟩
 ·
  conv => whnf
  have e : k = (openS s).length := by simp at h1; omega
  rw [e, hend]
  exact .q ⟨rfl, rfl⟩
def zTo (L : List Iv) : Nat → Nat × Rat
 | 0 => (0, 0)
 | i + 1 => if decide (cmpQ (wd L i) (zTo L i).2 > 0) = true then (i, wd L i) else zTo L i
theorem cmp_pos {a b : Rat} : decide (cmpQ a b > 0) = true ↔ b < a := by
 rw [decide_eq_true_iff, gt_iff_lt, ← Int.not_le, cmpQ_le, Rat.not_le]
theorem zTo_w {L : List Iv} (h : ∀ j, 0 ≤ wd L j) : ∀ i, zTo L (i + 1) = (wTo L (i + 1), wd L (wTo L (i + 1)))
 | 0 => by
   have h0 := h 0
   have e1 : wTo L 1 = 0 := by simp only [wTo]; exact ite_self _
   rw [e1]
   show (if decide (cmpQ (wd L 0) 0 > 0) = true then (0, wd L 0) else (0, 0)) = _
   split
   ·
    rfl
   ·
    rename_i h2
    rw [cmp_pos] at h2
    have : wd L 0 = 0 := by grind
    rw [this]
 | i + 1 => by
   have ih := zTo_w h i
   have e1 : zTo L (i + 2) = if decide (cmpQ (wd L (i + 1)) (zTo L (i + 1)).2 > 0) = true then (i + 1, wd L (i + 1)) else zTo L (i + 1) := rfl
   have e2 : wTo L (i + 2) = if decide (cmpQ (wd L (i + 1)) (wd L (wTo L (i + 1))) > 0) = true then i + 1 else wTo L (i + 1) := rfl
   rw [e1, e2, ih]
   by_cases k : decide (cmpQ (wd L (i + 1)) (wd L (wTo L (i + 1))) > 0) = true
   ·
    rw [if_pos k, if_pos k]
   ·
    rw [if_neg k, if_neg k]
theorem wd_pos {s : Sp} (h : bxE s = 0) (j : Nat) : 0 ≤ wd (bxR s) j := by
 unfold bxE at h
 split at h
 ·
  cases h
 ·
  rename_i h'
  have e : bxR s = bxS s := by rw [bxR, if_neg h']
  rw [e]
  unfold wd ivAt
  cases hx : (bxS s)[j]? with
  | none => show (0 : Rat) ≤ 0 - 0; grind
  | some v =>
    have h2 : ¬ ivBad v = true := fun h3 => h' (any_true hx h3)
    unfold ivBad at h2
    rw [cmp_pos] at h2
    show 0 ≤ v.hi - v.lo
    grind
def zbD (s : Sp) : Dc := if decide ((cntI s.path : Int) ≥ 4) = true ∨ bxE s ≠ 0 then dc0 else ⟨3, (zTo (bxR s) (bxR s).length).1, can (((1 : Int) : Rat) / ((2 : Int) : Rat) * ((ivAt (bxR s) (zTo (bxR s) (bxR s).length).1).lo + (ivAt (bxR s) (zTo (bxR s) (bxR s).length).1).hi))⟩
def zbB (s : Sp) : Bool := if decide ((cntI s.path : Int) ≥ 4) = true ∨ bxE s ≠ 0 then false else decide ((zTo (bxR s) (bxR s).length).2.num.sign > 0)
theorem zTo_lt (L : List Iv) (h : 0 < L.length) : ∀ i, i ≤ L.length → (zTo L i).1 < L.length
 | 0, _ => h
 | i + 1, hi => by
   have ih := zTo_lt L h i (by omega)
   simp only [zTo]
   split
   ·
    show i < _; omega
   ·
    exact ih
theorem zTo_b {L : List Iv} (h : IvB L) : ∀ i, Bt 600000001 (zTo L i).2
 | 0 => bt0 _
 | i + 1 => by
   simp only [zTo]
   split
   ·
    exact wd_b h i
   ·
    exact zTo_b h i
theorem lx_zbis {s : Sp} (hs : SpOk s) : LV Tryz.prog 47 [.agg s.A] (.tup [.g (zbD s).A, .s (.d (.lit (.bool (zbB s))))]) := by
 have hpl := hs.pl; have hn1 := hs.q.g.n1; have hn2 := hs.q.g.n2
 refine LX_run (m := 0) (n0 := 0) mix Tryz.func47 rfl rfl rfl rfl ?_
 conv => whnf
 refine .mk Nat (fun i => ⟨[(5, vl (.int .i64 (i : Nat))), (4, vl (.int .i64 (cntI (s.path.take i)))), (2, .a (.ptr 1 0)), (1, .a (.ptr 0 0))], [(0, .box 43 s.A), (1, .box 59 [.d (.lit (.int .i64 0)), .d (.lit (.int .i64 0)), .d (.lit (.bool false)), .d (.nat 0), .d (.nat 0)])], 2⟩) (fun i => i ≤ s.path.length) (fun i => s.path.length - i) 0 Wk.go (zL_ _) fun i hi => ?_
 conv => whnf
 refine bs (fun h1 => ?_) (fun h1 => ?_)
 ·
  conv => whnf
  have h1' : i < s.path.length := by simpa using h1
  obtain ⟨d, hd⟩ := at_some h1'
  have hc := cntI_succ hd
  have hcl := cntI_le s.path i
  generalize cntI (s.path.take i) = m at *
  refine .mk (i) (d.D) (rfl) (at_map hd) ?_
  conv => whnf
  conv => whnf
  refine bs (fun h2 => ?_) (fun h2 => ?_)
  ·
   conv => whnf
   exact ⟨i + 1, by rw [hc, if_pos (by simp [isIn]; left; simpa using h2)]; exact Wk.go, h1', by omega⟩
  ·
   conv => whnf
   refine .mk (i) (d.D) (rfl) (at_map hd) ?_
   conv => whnf
   conv => whnf
   refine bs (fun h3 => ?_) (fun h3 => ?_)
   ·
    conv => whnf
    exact ⟨i + 1, by rw [hc, if_pos (by simp [isIn]; right; simpa using h3)]; exact Wk.go, h1', by omega⟩
   ·
    conv => whnf
    exact ⟨i + 1, by rw [hc, if_neg (by simp at h2 h3; simp [isIn, h2, h3])]; exact Wk.go, h1', by omega⟩
 ·
  conv => whnf
  have e : i = s.path.length := by simp at h1; omega
  subst e
  rw [List.take_length]
  refine .c (lx_zbox hs) ?_
  conv => whnf
  have hx := bxR_len hs
  have hxb := bxR_b hs
  refine bs (fun h2 => ?_) (fun h2 => ?_)
  ·
   conv => whnf
   exact .q ⟨by rw [zbD, zbB, if_pos (.inl h2), if_pos (.inl h2)]; rfl, rfl⟩
  ·
   conv => whnf
   refine bs (fun h3 => ?_) (fun h3 => ?_)
   ·
    conv => whnf
    have h3' : bxE s ≠ 0 := by simpa using h3
    exact .q ⟨by rw [zbD, zbB, if_pos (.inr h3'), if_pos (.inr h3')]; rfl, rfl⟩
   ·
    conv => whnf
    have h3' : bxE s = 0 := by simpa using h3
    have hc : ¬ (decide ((cntI s.path : Int) ≥ 4) = true ∨ bxE s ≠ 0) := by rw [h2]; simp [h3']
    specialize hx h3'
    have hdD := show zbD s = _ from if_neg hc
    have hdB := show zbB s = _ from if_neg hc
    generalize bxR s = L at *
    have hL : 0 < L.length := by omega
    refine .mk Nat (fun j => ⟨[(10, vl (.int .i64 (j : Nat))), (9, .a (.ptr 2 0)), (8, vl (.int .i64 ((zTo L j).1 : Nat))), (6, .a (.d (ivsD L))), (2, .a (.ptr 1 0))], [(0, .gone), (1, .box 59 [.d (.lit (.int .i64 0)), .d (.lit (.int .i64 0)), .d (.lit (.bool false)), .d (.nat 0), .d (.nat 0)]), (2, .box 37 (can (zTo L j).2).A)], 3⟩)
     (fun j => j ≤ L.length) (fun j => L.length - j) 0 (Wk.go (h2 := ⟨⟨_, rfl, trivial, rfl⟩, ⟨_, rfl, wke_refl _, rfl⟩, ⟨_, rfl, ⟨_, rfl, by rw [show (zTo L 0).2 = 0 from rfl, can0]; exact ⟨aR_ _, aR_ _, aR_ _, trivial⟩⟩, rfl⟩, trivial⟩)) (zL_ _) fun j hj => ?_
    have hzl := zTo_lt L hL j hj
    have hzb := zTo_b hxb j
    conv => whnf
    refine bs (fun h4 => ?_) (fun h4 => ?_)
    ·
     conv => whnf
     have h4' : j < L.length := by simpa using h4
     have hv := ivAt_b hxb j
     have hst : zTo L (j + 1) = if decide (cmpQ ((ivAt L j).hi - (ivAt L j).lo) (zTo L j).2 > 0) = true then (j, (ivAt L j).hi - (ivAt L j).lo) else zTo L j := rfl
     generalize zTo L j = a at *
     obtain ⟨bb, t⟩ := a
     refine .mk (j) ((ivAt L j).D) (rfl) (at_map (ivAt_some h4')) ?_
     conv => whnf
     conv => whnf
     refine .mk (j) ((ivAt L j).D) (rfl) (at_map (ivAt_some h4')) ?_
     conv => whnf
     conv => whnf
     refine .c (lx_zsub (.c (hv.2.mono (by decide))) (.c (hv.1.mono (by decide)))) ?_
     conv => whnf
     refine .mk (by kernel_rfl) ?_
     conv => whnf
     refine .c (lx_zcmp (.c ((wd_b hxb j).mono (by decide))) (.c (hzb.mono (by decide)))) ?_
     conv => whnf
     refine bs (fun h5 => ?_) (fun h5 => ?_)
     ·
      conv => whnf
      refine .mk (by kernel_rfl) ?_
      conv => whnf
      exact ⟨j + 1, by rw [hst, if_pos h5]; exact Wk.go, h4', by omega⟩
     ·
      conv => whnf
      exact ⟨j + 1, by rw [hst, if_neg (by rw [h5]; exact Bool.false_ne_true)]; exact Wk.go, h4', by omega⟩
    ·
     conv => whnf
     have e : j = L.length := by simp at h4; omega
     subst e
     have hv := ivAt_b hxb (zTo L L.length).1
     have hvs := ivAt_some hzl
     generalize zTo L L.length = a at *
     obtain ⟨m, t⟩ := a
     simp only at hdD hdB hzl hzb hv hvs
     have hhb : Bt 4 (((1 : Int) : Rat) / ((2 : Int) : Rat)) := ((Bt.int (k := 2) (by decide)).div (Bt.int (k := 2) (by decide)) (by decide)).mono (by decide)
     refine .c (lx_zfrac (y := 1) (z := 2) (by decide) (by decide) (by decide) (by decide) (by decide)) ?_
     conv => whnf
     refine .mk (m) ((ivAt L m).D) (rfl) (at_map hvs) ?_
     conv => whnf
     conv => whnf
     refine .mk (m) ((ivAt L m).D) (rfl) (at_map hvs) ?_
     conv => whnf
     conv => whnf
     refine .c (lx_zadd (.c (hv.1.mono (by decide))) (.c (hv.2.mono (by decide)))) ?_
     conv => whnf
     refine .c (lx_zmul (.c (hhb.mono (by decide))) (.c ((hv.1.add hv.2).mono (by decide)))) ?_
     conv => whnf
     refine .c (lx_zsign (.c (hzb.mono (by decide)))) ?_
     conv => whnf
     refine bs (fun h6 => ?_) (fun h6 => ?_)
     ·
      conv => whnf
      refine .mk (by kernel_rfl) ?_
      conv => whnf
      exact .q ⟨by rw [hdD, hdB]; simp only at h6; rw [h6], rfl⟩
     ·
      conv => whnf
      refine .mk (by kernel_rfl) ?_
      conv => whnf
      exact .q ⟨by rw [hdD, hdB]; simp only at h6; rw [h6], rfl⟩
theorem half_eq (a b : Rat) : ((1 : Int) : Rat) / ((2 : Int) : Rat) * (a + b) = (a + b) / ((2 : Int) : Rat) := by
 rw [Rat.div_def, Rat.div_def]; grind
theorem bis_eq {s : Sp} (hs : SpOk s) : bisS s = if zbB s = true then zbD s else firS s := by
 by_cases hc : decide ((cntI s.path : Int) ≥ 4) = true ∨ bxE s ≠ 0
 ·
  rw [bisS, zbB, if_pos hc, if_pos hc, if_neg (by decide)]
 ·
  have h0 : bxE s = 0 := by
   rcases Decidable.em (bxE s = 0) with h | h
   ·
    exact h
   ·
    exact absurd (.inr h) hc
  have hx := bxR_len hs h0
  have hn1 := hs.q.g.n1
  obtain ⟨i, hi⟩ : ∃ i, (bxR s).length = i + 1 := ⟨(bxR s).length - 1, by omega⟩
  have hz := zTo_w (wd_pos h0) i
  have hp := wd_pos h0 (wTo (bxR s) (i + 1))
  rw [bisS, zbB, zbD, if_neg hc, if_neg hc, if_neg hc, hi, hz]
  simp only
  rw [half_eq, sg_gt]
  by_cases h : wd (bxR s) (wTo (bxR s) (i + 1)) = 0
  ·
   rw [if_pos (by rw [h]; rfl), if_neg (by rw [h]; decide)]
  ·
   have hlt : 0 < wd (bxR s) (wTo (bxR s) (i + 1)) := by grind
   rw [if_neg (fun h2 => h (by rw [Int.sign_eq_zero_iff_zero] at h2; exact Rat.num_eq_zero.1 h2)), if_pos (decide_eq_true hlt)]
def fdS (s : Sp) (pt : List Rat) : Dc := onD (gMost (byF s pt (decide (pt.length = s.q.g.n + s.q.g.us.length))) (openS s))
theorem lx_zchoose {s : Sp} {pt : List Rat} {r : Int} (hs : SpOk s) (hq : QuB s.q) (hp : RsB 128 pt) (hpl : pt.length ≤ 1000000) :
  LV Tryz.prog 17 [.agg s.A, .a (.d (rqsD pt)), vl (.int .i64 r)] (.tup [.g (csD s (fdS s pt) r).A, .s (.d (.lit (.int .i64 (csE s r))))]) := by
 by_cases hr : r < 0 ∨ 3 < r
 ·
  have h1 : csE s r = 1 := by rw [csE, if_pos hr]
  refine LX_run (m := 0) (n0 := 0) mix Tryz.func17 rfl rfl rfl rfl ?_
  conv => whnf
  refine .c (lx_zquvalid hs.q) ?_
  conv => whnf
  repeat' first | (refine bs (fun h => ?_) (fun h => ?_) <;> conv => whnf) | (refine Nc.mk (by kernel_rfl) ?_; conv => whnf)
  all_goals first
   | (exact .q ⟨by rw [h1, csD, if_pos (by rw [h1]; decide)]; rfl, rfl⟩)
   | (exfalso; simp at *; omega)
 ·
  have hul := openS_len s
  have hus := hs.q.g.u1
  have hn2 := hq.g.n2
  refine LX_run (m := 0) (n0 := 0) mix Tryz.func17 rfl rfl rfl rfl ?_
  conv => whnf
  refine .c (lx_zquvalid hs.q) ?_
  conv => whnf
  refine bF (decide_eq_false (by omega)) ?_
  conv => whnf
  refine bF (decide_eq_false (by omega)) ?_
  conv => whnf
  refine .c (lx_zopen hs) ?_
  conv => whnf
  obtain ho | ⟨u, l, ho⟩ : openS s = [] ∨ ∃ u l, openS s = u :: l := by
   cases openS s with
   | nil => exact .inl rfl
   | cons u l => exact .inr ⟨u, l, rfl⟩
  ·
   have h1 : csE s r = 10 := by rw [csE, if_neg hr, ho]; rfl
   refine bT (by rw [List.length_map, ho]; rfl) ?_
   conv => whnf
   exact .q ⟨by rw [h1, csD, if_pos (by rw [h1]; decide)]; rfl, rfl⟩
  ·
   have h1 : csE s r = 0 := by rw [csE, if_neg hr, ho]; rfl
   have h2 : csD s (fdS s pt) r = if r = 0 then firS s else if r = 1 then onD (gMost (gapS s) (openS s)) else if r = 2 then bisS s else fdS s pt := by rw [csD, if_neg (by rw [h1]; decide)]
   have hfir : firS s = onD u := by rw [firS, ho]; rfl
   have hne : openS s ≠ [] := by rw [ho]; simp
   refine bF (by rw [List.length_map, ho]; simp; omega) ?_
   conv => whnf
   refine .mk (0) ([.lit (encN u)]) (rfl) (by rw [ho]; rfl) ?_
   conv => whnf
   obtain rfl | rfl | rfl | rfl : r = 0 ∨ r = 1 ∨ r = 2 ∨ r = 3 := by omega
   all_goals conv => whnf
   ·
    exact .q ⟨by rw [h1, h2, if_pos rfl, hfir]; rfl, rfl⟩
   ·
    have cm := (lx_zmost (pt := []) (b := false) hs hq (fun q h => by cases h) (fun h => by cases h) hne).wk (args := [.agg s.A, vl (.bool false), .a (.d (.lit (.slice none 0 0)))]) ⟨vR_ _, vR_ _, WkV.of WkA.nil, trivial⟩
    refine .c (cm) ?_
    conv => whnf
    exact .q ⟨by rw [h1, h2, if_neg (by decide), if_pos rfl]; rfl, rfl⟩
   ·
    refine .c (lx_zbis hs) ?_
    conv => whnf
    have hb := bis_eq hs
    refine bs (fun h3 => ?_) (fun h3 => ?_)
    ·
     conv => whnf
     rw [if_pos h3] at hb
     exact .q ⟨by rw [h1, h2, if_neg (by decide), if_neg (by decide), if_pos rfl, hb], rfl⟩
    ·
     conv => whnf
     rw [if_neg (by rw [h3]; exact Bool.false_ne_true)] at hb
     exact .q ⟨by rw [h1, h2, if_neg (by decide), if_neg (by decide), if_pos rfl, hb, hfir]; rfl, rfl⟩
   ·
    refine .c (lx_zgvars hs.q.g) ?_
    conv => whnf
    refine bs (fun h4 => ?_) (fun h4 => ?_)
    ·
     conv => whnf
     have h4' : pt.length = s.q.g.n + s.q.g.us.length := by rw [List.length_map] at h4; simp at h4; omega
     refine .c (lx_zmost (b := true) hs hq hp (fun _ => h4') hne) ?_
     conv => whnf
     refine .mk (by kernel_rfl) ?_
     conv => whnf
     exact .q ⟨by rw [h1, h2, if_neg (by decide), if_neg (by decide), if_neg (by decide), fdS, decide_eq_true h4'], rfl⟩
    ·
     conv => whnf
     have h4' : ¬ pt.length = s.q.g.n + s.q.g.us.length := fun h5 => by rw [List.length_map, h5] at h4; simp at h4
     refine .c (lx_zmost (b := false) hs hq hp (fun h => by cases h) hne) ?_
     conv => whnf
     refine .mk (by kernel_rfl) ?_
     conv => whnf
     exact .q ⟨by rw [h1, h2, if_neg (by decide), if_neg (by decide), if_neg (by decide), fdS, decide_eq_false h4'], rfl⟩
theorem LX.frz {P : Program} {F : FuncId} {t : TypeId} {row : List D} {d : Dc} (h : LX P F [.a (.elt row 0)] [] fun v H => v = dcV d ∧ H = []) :
  LX P F [.a (.ptr 0 0)] [(0, .box t (row.map A.d))] fun v H => v = dcV d ∧ H = [(0, .box t (row.map A.d))] := by
 obtain ⟨_, _, ⟨rfl, rfl⟩, hc⟩ := h
 refine ⟨_, _, ⟨rfl, rfl⟩, fun γ M w rs hr ha => ?_⟩
 obtain ⟨v, rfl, hv⟩ := all2_1 ha
 obtain ⟨_, g, hg, rfl⟩ := hv
 obtain ⟨g', vs, k1, k2, k3⟩ := hr.ent 0 _ rfl
 rw [hg] at k1; injection k1 with k1; injection k1 with k1; injection k1 with k1; subst k1
 have hgl : g < w.heap.size := (Array.getElem?_eq_some_iff.1 k2).1
 have hMg : ∀ i, M g i := fun i => hr.own 0 g i (by unfold Owns; simp only [look, if_true]; rw [hg]; rfl)
 have hfx : ∀ b i v, Fx M w b i v → Fx (fun b i => M b i ∧ b ≠ g) w b i v := fun b i v k => ⟨fun h => k.1 h.1, k.2⟩
 have hrel : Rel γ (look []) (fun b i => M b i ∧ b ≠ g) w :=
  ⟨fun key e he => by simp [look] at he, fun key b i ho => by simp [Owns, look] at ho, fun k1 k2 b l1 => by simp [look, live] at l1, fun b i n hm => hr.u32 b i n hm.1, fun b i hm => hr.dom b i hm.1, hr.glb.fx hfx⟩
 have hcell : ∀ (j : Nat) u, vs[j]? = some u → w.cell? ⟨g, 0 + j, none⟩ = some u := fun j u hj => by
  simp only [World.cell?, k2]
  simp [hj]
 have hall : All2 (RdD M w) row vs := by
  have := All2.unmap k3
  exact this
 have harg : RdV γ (look []) (fun b i => M b i ∧ b ≠ g) w (.a (.elt row 0)) (.pointer (some ⟨g, 0, none⟩)) := by
  refine ⟨g, 0, fun j => vs.getD j undef, rfl, fun j d hj => ?_⟩
  obtain ⟨u, hu, hd⟩ := All2.get hall hj
  have e : vs.getD j undef = u := by rw [List.getD_eq_getElem?_getD, hu]; rfl
  simp only [e]
  exact ⟨⟨fun h => h.2 rfl, hcell j u hu⟩, RdD.fx hfx hd⟩
 refine cM (hc γ _ w _ hrel ⟨harg, trivial⟩) ?_
 rintro e w' ⟨r, γ', M2, rfl, r1, r2, s⟩
 have hblk : w'.heap[g]? = w.heap[g]? := s.other g hgl fun key i ho => by simp [Owns, look] at ho
 have hcg : ∀ i, w'.cell? ⟨g, i, none⟩ = w.cell? ⟨g, i, none⟩ := fun i => World.cell?_of_block (a := ⟨g, i, none⟩) hblk
 have fx : ∀ b i v, Fx M w b i v → Fx (fun b i => M2 b i ∨ b = g) w' b i v := fun b i v k => by
  have k2 := s.fx b i v (hfx b i v k)
  exact ⟨fun h => h.elim k2.1 fun h => k.1 (h ▸ hMg i), k2.2⟩
 have u3 : ∀ i n, w'.cell? ⟨g, i, none⟩ ≠ some (.int .u32 n) := fun i n => by rw [hcg i]; exact hr.u32 g i n (hMg i)
 have hlm : ∀ {xs : List Nat} {v : Value}, RdD M2 w' (.lm xs) v → RdD (fun b i => M2 b i ∨ b = g) w' (.lm xs) v := fun {xs v} k => by
  cases k with
  | lm _ _ hs hm =>
    refine .lm xs v hs fun b o l c hv i hi h => ?_
    rcases h with h | h
    ·
     exact hm b o l c hv i hi h
    ·
     obtain ⟨ad, l', c', hv', h1, h2, h3, h4, h5⟩ := hs
     rw [hv] at hv'
     injection hv' with e1 e2 e3
     subst e1 e2 e3
     obtain ⟨b2, off, e, _, hc⟩ := h5 (by omega)
     injection e with e
     injection e with e4 e5
     subst e4 e5 h
     exact u3 _ _ (hc i hi)
 refine ⟨r, γ, fun b i => M2 b i ∨ b = g, rfl, ⟨fun key e he => ?_, fun key b i ho => ?_, fun key1 key2 b l1 l2 b1 b2 => ?_, fun b i n hm => ?_, fun b i hm => ?_, hr.glb.fx fx⟩, ?_, ⟨s.os, s.tape, s.output, s.size, fx, fun b hb hno => s.other b hb fun key i ho => by simp [Owns, look] at ho, fun b i hm hno => .inl (s.keep b i ⟨hm, fun e => hno 0 (by unfold Owns; simp only [look, if_true]; rw [hg, e]; rfl)⟩ fun key ho => by simp [Owns, look] at ho), fun key b i ho _ => ⟨key, ho⟩, fun key e he => ⟨e, he, Goes.refl e, .inl rfl⟩⟩⟩
 ·
  simp only [look] at he
  split at he
  ·
   rename_i h0
   injection he with he; subst he
   subst h0
   exact ⟨g, vs, hg, hblk.trans k2, All2.map (All2.imp (fun _ _ k => RdD.fx fx k) hall)⟩
  ·
   cases he
 ·
  unfold Owns at ho
  simp only [look] at ho
  split at ho
  ·
   rename_i t0 cs he
   split at he
   ·
    rename_i h0; subst h0
    rw [hg] at ho; injection ho with ho; exact .inr ho.symm
   ·
    cases he
  all_goals (rename_i he; split at he <;> first | cases he | exact ho.elim)
 ·
  simp only [look] at l1 l2
  split at l1
  ·
   rename_i h1
   split at l2
   ·
    rename_i h2; rw [← h1, ← h2]
   ·
    cases l2
  ·
   cases l1
 ·
  rcases hm with hm | rfl
  ·
   exact r1.u32 b i n hm
  ·
   exact u3 i n
 ·
  rcases hm with hm | rfl
  ·
   exact r1.dom b i hm
  ·
   exact Nat.lt_of_lt_of_le hgl s.size
 ·
  obtain ⟨us, rfl, hus⟩ := r2
  match us, hus with
  | [u0, u1, u2, u3', u4], hus => exact ⟨_, rfl, by rw [lit_inv hus.1]; exact .lit _, by rw [lit_inv hus.2.1]; exact .lit _, by rw [lit_inv hus.2.2.1]; exact .lit _, hlm hus.2.2.2.1, hlm hus.2.2.2.2.1, trivial⟩
abbrev chRow (s : Sp) (pt : List Rat) : List D := [.lit (.int .i64 s.q.g.n), afsD s.q.g.us, afsD s.q.g.os, rqsD s.q.r.lo, rqsD s.q.r.hi, afsD s.q.r.rs, .sl 4 (s.q.goal.ts.map Tm.D), .lit (.bool (decide (s.q.goal.c < 0))), .lm (limbs s.q.goal.c.num.natAbs), .lm (limbs (dn s.q.goal.c)), dcsD s.path, lmsD s.ls, rqsD pt, natsD (openS s)]
abbrev fuH (s : Sp) (pt : List Rat) : List (Nat × Ent) := [(0, .box 29 s.q.g.A), (1, .box 92 [.elt (chRow s pt) 0])]
theorem lx_far1 {s : Sp} {pt : List Rat} {j : Nat} (hs : SpOk s) (hq : QuB s.q) (hp : RsB 128 pt) (hl : pt.length = s.q.g.n + s.q.g.us.length) (hj : j < s.q.g.us.length) :
  LX Tryz.prog 89 [vl (.int .i64 j), .a (.ptr 0 0), .a (.ptr 1 0)] (fuH s pt) fun v H => v = ratV (faQ s pt j) ∧ H = fuH s pt := by
 have hn2 := hq.g.n2; have hu1 := hq.g.u1
 have hu := unAt_some hj
 have hf := hq.g.us _ _ hu
 have hb := evQ_b hf hp (by omega)
 have hdb := ((atQ_b hp ((s.q.g.n + j : Nat) : Int)).sub (mxQ_b hb))
 obtain ⟨x, hx⟩ := at_some (l := pt) (i := s.q.g.n + j) (by omega)
 have hxq := atQ_nat hx
 have hfin : faQ s pt j = absQ (atQ pt ((s.q.g.n + j : Nat) : Int) - mxQ (evQ (unAt s j) pt)) := by
  unfold faQ
  rw [Int.toNat_natCast, if_pos hj]; rfl
 rw [hxq] at hfin hdb
 have xb := hp x (mG_ hx)
 have cm := lx_rmax (.c (hdb.mono (by decide) : Sz _)) (.c (hdb.neg.mono (by decide) : Sz _))
 refine LX_run (m := 2) (n0 := 2) mix Tryz.func89 rfl rfl rfl rfl ?_
 conv => whnf
 refine .mk (j) ((unAt s j).D) (rfl) (at_map hu) ?_
 conv => whnf
 conv => whnf
 refine .c (lx_leval hf hp (by omega) (by omega) (by decide)) ?_
 conv => whnf
 refine .mk (by kernel_rfl) ?_
 conv => whnf
 refine .mk (s.q.g.n + j) ((can x).D) (by rw [wr64 (by omega) (by omega)]; omega) (at_map (f := fun q => (can q).D) hx) ?_
 conv => whnf
 conv => whnf
 refine .c (lx_rmax (.c (hb.mono (by decide) : Sz _)) RQ0) ?_
 conv => whnf
 refine .c (lx_rsub (.c (xb.mono (by decide) : Sz _)) (.c ((mxQ_b hb).mono (by decide) : Sz (mxQ (evQ (unAt s j) pt))))) ?_
 conv => whnf
 refine .mk (by kernel_rfl) ?_
 conv => whnf
 refine .c (lx_rneg (.c (hdb.mono (by decide) : Sz _))) ?_
 conv => whnf
 refine .c (cm) ?_
 conv => whnf
 refine .mk (by kernel_rfl) ?_
 conv => whnf
 exact ⟨_, _, ⟨by rw [hfin]; rfl, rfl⟩, vR_ _, rfl, ⟨⟨_, rfl, wke_refl _, rfl⟩, ⟨_, rfl, wke_refl _, rfl⟩, trivial⟩, rfl⟩
theorem lx_greatestE {s : Sp} {pt : List Rat} {u : Nat} {l : List Nat} (hs : SpOk s) (hq : QuB s.q) (hp : RsB 128 pt) (hl : pt.length = s.q.g.n + s.q.g.us.length) (ho : openS s = u :: l) :
  LX Tryz.prog 81 [.a (.elt (chRow s pt) 0), .a (.fn (.func 89) [] [.ptr 0 0, .ptr 1 0])] (fuH s pt) fun v H => v = dcV (onD (gMost (faQ s pt) (openS s))) ∧ H = fuH s pt := by
 have hul := hs.q.g.u1
 have hln := openS_len s
 rw [ho] at hln
 have hlt : ∀ j ∈ u :: l, j < s.q.g.us.length := fun j hj => openTo_lt s s.q.g.us.length j (by rw [show openTo s s.q.g.us.length = openS s from rfl, ho]; exact hj)
 have hll : l.length ≤ 1024 := by simp at hln; omega
 have hφ : ∀ j, Sz (faQ s pt j) := fun j => (faQ_b hq hp j).mono (by decide)
 refine LX_run (m := 2) (n0 := 2) mix Tryz.func81 rfl rfl rfl rfl ?_
 conv => whnf
 refine .mk (0) ([.lit (encN u)]) (rfl) (by rw [ho]; rfl) ?_
 conv => whnf
 conv => whnf
 refine Cn.l [0, 1] (lx_far1 hs hq hp hl (hlt u (by simp))) ?_
 conv => whnf
 refine .mk 1 (openS s).length (l.map fun j => [.lit (encN j)]) rfl (by simp) (by rw [ho]; simp) (by simp) (by rw [ho]; simp [List.take_of_length_le]) ?_
 conv => whnf
 refine .mk Nat (fun i => ⟨[(25, vl (.int .i64 i)), (24, vl (.int .i64 (l.map fun j => [D.lit (encN j)]).length)), (23, .a (.d (natsD l))), (6, .a (.ptr 5 0)), (5, vl (.int .i64 (gTo (faQ s pt) u l i).1)), (4, .a (.ptr 2 0)), (1, .a (.fn (.func 89) [] [.ptr 0 0, .ptr 1 0]))], [(0, .box 29 s.q.g.A), (1, .box 92 [.elt (chRow s pt) 0]), (2, .box 59 [.d (.lit (.int .i64 0)), .d (.lit (.int .i64 0)), .d (.lit (.bool false)), .d (.nat 0), .d (.nat 0)]), (5, .box 37 (can (gTo (faQ s pt) u l i).2).A)], 6⟩) (fun i => i ≤ l.length) (fun i => l.length - i) 0 Wk.go (zL_ _) fun i hi => ?_
 conv => whnf
 conv => whnf
 refine bs (fun h1 => ?_) (fun h1 => ?_)
 ·
  conv => whnf
  have h1' : i < l.length := by simpa using h1
  obtain ⟨j, hj⟩ := at_some h1'
  have hjl := hlt j (List.mem_cons_of_mem _ (mG_ hj))
  have hgs := gTo_succ (φ := faQ s pt) (u := u) hj
  have hgb := gTo_b (u := u) (l := l) hφ i
  generalize gTo (faQ s pt) u l i = a at *
  obtain ⟨b, t⟩ := a
  refine .mk (i) ([.lit (encN j)]) (rfl) (at_map hj) ?_
  conv => whnf
  conv => whnf
  refine Cn.l [0, 1] (lx_far1 hs hq hp hl hjl) ?_
  conv => whnf
  refine .c (lx_rcmp (.c (hφ j)) (.c hgb)) ?_
  conv => whnf
  refine bs (fun h2 => ?_) (fun h2 => ?_)
  ·
   conv => whnf
   refine .mk (by kernel_rfl) ?_
   conv => whnf
   exact ⟨i + 1, by rw [hgs, gStep, if_pos h2]; exact Wk.go, h1', by omega⟩
  ·
   conv => whnf
   exact ⟨i + 1, by rw [hgs, gStep, if_neg (by rw [h2]; exact Bool.false_ne_true)]; exact Wk.go, h1', by omega⟩
 ·
  conv => whnf
  have e : i = l.length := by simp at h1; omega
  subst e
  refine .c (lx_on) ?_
  conv => whnf
  exact ⟨_, _, ⟨by rw [ho, gMost, gTo, List.take_length], rfl⟩, vR_ _, rfl, ⟨⟨_, rfl, wke_refl _, rfl⟩, ⟨_, rfl, wke_refl _, rfl⟩, trivial⟩, rfl⟩
theorem lx_furthE {s : Sp} {pt : List Rat} {u : Nat} {l : List Nat} (hs : SpOk s) (hq : QuB s.q) (hp : RsB 128 pt) (hl : pt.length = s.q.g.n + s.q.g.us.length) (ho : openS s = u :: l) :
  LX Tryz.prog 45 [.a (.elt (chRow s pt) 0)] [] fun v H => v = dcV (onD (gMost (faQ s pt) (openS s))) ∧ H = [] := by
 have hn2 := hq.g.n2; have hu1 := hq.g.u1
 refine LX_run (m := 0) (n0 := 0) mix Tryz.func45 rfl rfl rfl rfl ?_
 conv => whnf
 refine .c (lx_gvars hs.q.g) ?_
 conv => whnf
 refine bF (by rw [List.length_map, hl]; simp) ?_
 conv => whnf
 refine .mk (by kernel_rfl) ?_
 conv => whnf
 refine .l [2, 0] (lx_greatestE hs hq hp hl ho) ?_
 conv => whnf
 exact .q ⟨rfl, rfl⟩
theorem lx_further {s : Sp} {pt : List Rat} {u : Nat} {l : List Nat} (hs : SpOk s) (hq : QuB s.q) (hp : RsB 128 pt) (hpl : pt.length ≤ 1000000) (ho : openS s = u :: l) :
  LX Tryz.prog 45 [.a (.ptr 0 0)] (chH s pt) fun v H => v = dcV (fdS s pt) ∧ H = chH s pt := by
 by_cases hl : pt.length = s.q.g.n + s.q.g.us.length
 ·
  have e : fdS s pt = onD (gMost (faQ s pt) (openS s)) := by rw [fdS, decide_eq_true hl]; rfl
  rw [e]
  exact (lx_furthE hs hq hp hl ho).frz (t := 95)
 ·
  have e : fdS s pt = onD (gMost (gapS s) (openS s)) := by rw [fdS, decide_eq_false hl]; rfl
  rw [e]
  exact lx_further0 hs ho hl hpl
theorem lx_chooseF {s : Sp} {pt : List Rat} {r : Int} (hs : SpOk s) (hq : QuB s.q) (hp : RsB 128 pt) (hpl : pt.length ≤ 1000000) :
  LV Tryz.prog 16 [.agg s.A, .a (.d (rqsD pt)), vl (.int .i64 r)] (.tup [.g (csD s (fdS s pt) r).A, .s (.d (.lit (.int .i64 (csE s r))))]) :=
 lx_choose hs hpl fun u l ho => lx_further hs hq hp hpl ho
theorem lx_choosez : LV Tryz.prog 16 [.agg zSp, .a (.d (.lit (.slice none 0 0))), vl (.int .i64 0)] (.tup [.g dc0.A, .s (.d (.lit (.int .i64 1)))]) := by
 refine LX_run (m := 0) (n0 := 0) mix Tryz.func16 rfl rfl rfl rfl ?_
 conv => whnf
 refine .c (lx_qzero) ?_
 conv => whnf
 exact .q ⟨rfl, rfl⟩
theorem lx_zsameD {d : Dc} : LV Tryz.prog 18 [.agg d.A, .agg d.A] (vl (.bool true)) := by
 have cs := lx_zsame2 (x := d.at_) (y := d.at_)
 rw [eq_self] at cs
 refine LX_run (m := 0) (n0 := 0) mix Tryz.func18 rfl rfl rfl rfl ?_
 conv => whnf
 refine bT (by simp) ?_
 conv => whnf
 refine bT (by simp) ?_
 conv => whnf
 refine .c (cs) ?_
 conv => whnf
 exact .q ⟨rfl, rfl⟩
abbrev rwsD (l : List Rw) : D := .sl 3 (l.map Rw.D)
theorem lx_zallR {l : List Rw} (hl : l.length ≤ 1000) (hs : ∀ x ∈ l, x.sm) : ∃ b, (b = true → ∀ x ∈ l, x.ok = true) ∧ LV Tryz.prog 15 [.a (.d (rwsD l))] (vl (.bool b)) := by
 suffices hh : LX Tryz.prog 15 [.a (.d (rwsD l))] [] fun v H => ∃ b, (b = true → ∀ x ∈ l, x.ok = true) ∧ v = vl (.bool b) ∧ H = [] by
  obtain ⟨v, H', ⟨b, h1, rfl, rfl⟩, hc⟩ := hh
  exact ⟨b, h1, _, _, ⟨rfl, rfl⟩, hc⟩
 refine LX_run (m := 0) (n0 := 0) mix Tryz.func15 rfl rfl rfl rfl ?_
 conv => whnf
 refine .mk Nat (fun i => ⟨[(3, vl (.int .i64 (i : Nat))), (0, .a (.d (rwsD l)))], [], 0⟩) (fun i => i ≤ l.length ∧ ∀ (j : Nat) x, j < i → l[j]? = some x → x.ok = true) (fun i => l.length - i) 0 Wk.go ⟨zL_ _, fun j x h => by omega⟩ fun i hb => ?_
 obtain ⟨hi, hall⟩ := hb
 conv => whnf
 refine bs (fun h1 => ?_) (fun h1 => ?_)
 ·
  conv => whnf
  have h1' : i < l.length := by simpa using h1
  obtain ⟨x, hx⟩ := at_some h1'
  have hc := lx_zok (hs x (mG_ hx))
  refine .mk (i) (x.D) (rfl) (at_map hx) ?_
  conv => whnf
  conv => whnf
  refine .c (hc) ?_
  conv => whnf
  refine bs (fun h2 => ?_) (fun h2 => ?_)
  ·
   conv => whnf
   exact ⟨i + 1, Wk.go, ⟨h1', fun j y hj hy => by
    rcases Nat.lt_succ_iff_lt_or_eq.1 hj with h3 | h3
    ·
     exact hall j y h3 hy
    ·
     subst h3; rw [hx] at hy; injection hy with hy; rw [← hy]; exact h2⟩, by omega⟩
  ·
   conv => whnf
   exact .q ⟨false, fun h => (by cases h), rfl, rfl⟩
 ·
  conv => whnf
  have e : i = l.length := by simp at h1; omega
  exact .q ⟨true, fun _ x hx => by
   obtain ⟨j, hj⟩ := List.mem_iff_getElem?.1 hx
   exact hall j x (by have := at_lt hj; omega) hj, rfl, rfl⟩
theorem lx_chooselaw {raw : List Nat} {P : List Dc} {L : List Lm} {pts : List Rw} {r : Int} (hr : RawOk' raw) (hP : P.length ≤ 1099511627776) (hL : L.length ≤ 1099511627776) (hw : ∀ d ∈ P, DcW d) (hlw : ∀ m ∈ L, LmW m) (hsm : ∀ x ∈ pts, x.sm) (hlm : ∀ x ∈ pts, lims x.n ∧ lims x.d) :
  LV Tryz.prog 5 [.a (.d (bysD raw)), .a (.d (dcsD P)), .a (.d (lmsD L)), .a (.d (rwsD pts)), vl (.int .i64 r)] (vl (.bool true)) := by
 have hrl := hr.len
 obtain ⟨b, hb, cl⟩ := lx_large (raw := raw) (P := P) (L := L) hlw hL hP hrl
 refine LX_run (m := 0) (n0 := 0) mix Tryz.func5 rfl rfl rfl rfl ?_
 conv => whnf
 refine .c (lx_awake) ?_
 conv => whnf
 refine .c (cl) ?_
 conv => whnf
 refine bs (fun h1 => ?_) (fun h1 => ?_)
 ·
  conv => whnf
  exact .q ⟨rfl, rfl⟩
 ·
  conv => whnf
  refine bs (fun h2 => ?_) (fun h2 => ?_)
  ·
   conv => whnf
   exact .q ⟨rfl, rfl⟩
  ·
   conv => whnf
   have h2' : pts.length ≤ 10 := by simp at h2; omega
   obtain ⟨v, hv, ca⟩ := lx_zallR (by omega) hsm
   refine .c (ca) ?_
   conv => whnf
   refine bs (fun h3 => ?_) (fun h3 => ?_)
   ·
    conv => whnf
    have hok := hv h3
    have hs := hb h1
    obtain ⟨s, ⟨hI, _⟩, cs⟩ := lx_scope ⟨by have := hs.raw; omega, hr.by_⟩ hs hw hlw
    refine .mk Nat (fun i => ⟨[(38, vl (.int .i64 (i : Nat))), (37, vl (.int .i64 (pts.map Rw.D).length)), (36, .a (.d (rwsD pts))), (0, .a (.d (bysD raw))), (1, .a (.d (dcsD P))), (2, .a (.d (lmsD L))), (3, .a (.d (rwsD pts))), (4, vl (.int .i64 r))], [], 0⟩) (fun i => i ≤ pts.length ∧ ∀ (j : Nat) x, j < i → pts[j]? = some x → x.n.length ≤ 4 ∧ x.d.length ≤ 4) (fun i => pts.length - i) 0 Wk.go ⟨zL_ _, fun j x h => by omega⟩ fun i hb2 => ?_
    obtain ⟨hi, hall⟩ := hb2
    conv => whnf
    refine bs (fun h4 => ?_) (fun h4 => ?_)
    ·
     conv => whnf
     have h4' : i < pts.length := by simpa using h4
     obtain ⟨x, hx⟩ := at_some h4'
     refine .mk (i) (x.D) (rfl) (at_map hx) ?_
     conv => whnf
     conv => whnf
     refine bs (fun h5 => ?_) (fun h5 => ?_)
     ·
      conv => whnf
      exact .q ⟨rfl, rfl⟩
     ·
      conv => whnf
      refine bs (fun h6 => ?_) (fun h6 => ?_)
      ·
       conv => whnf
       exact .q ⟨rfl, rfl⟩
      ·
       conv => whnf
       exact ⟨i + 1, Wk.go, ⟨h4', fun j y hj hy => by
        rcases Nat.lt_succ_iff_lt_or_eq.1 hj with h7 | h7
        ·
         exact hall j y h7 hy
        ·
         subst h7; rw [hx] at hy; injection hy with hy; subst hy; simp at h5 h6; omega⟩, by omega⟩
    ·
     conv => whnf
     have e : i = pts.length := by simp at h4; omega
     have hall' : ∀ x ∈ pts, x.n.length ≤ 4 ∧ x.d.length ≤ 4 := fun x hx => by
      obtain ⟨j, hj⟩ := List.mem_iff_getElem?.1 hx
      exact hall j x (by have := at_lt hj; omega) hj
     have hD : rqsD (pts.map Rw.q) = rwsD pts := by
      show D.sl 3 _ = D.sl 3 _
      rw [List.map_map]
      refine congrArg _ (List.map_congr_left fun x hx => ?_)
      show (can x.q).D = x.D
      rw [← ok_can (hok x hx)]
     have hRs : RsB 128 (pts.map Rw.q) := fun q hq => by
      obtain ⟨x, hx, rfl⟩ := List.mem_map.1 hq
      obtain ⟨a1, a2⟩ := hall' x hx
      obtain ⟨a3, a4⟩ := hlm x hx
      exact bt_raw a1 a2 a3 a4
     have hpl : (pts.map Rw.q).length ≤ 1000000 := by rw [List.length_map]; omega
     have c1 := lx_chooseF (r := r) hI.sp hI.q hRs hpl
     have c2 := lx_zchoose (r := r) hI.sp hI.q hRs hpl
     rw [hD] at c1 c2
     generalize csD s (fdS s (pts.map Rw.q)) r = d at *
     refine .c (cs) ?_
     conv => whnf
     refine .c (c1) ?_
     conv => whnf
     refine .c (c2) ?_
     conv => whnf
     refine .c (lx_choosez) ?_
     conv => whnf
     refine bT (by simp) ?_
     conv => whnf
     refine .c (lx_zsameD) ?_
     conv => whnf
     exact .q ⟨rfl, rfl⟩
   ·
    conv => whnf
    exact .q ⟨rfl, rfl⟩
end Go.Proofs.YtikglhmabidjoaaGreat.Lf
