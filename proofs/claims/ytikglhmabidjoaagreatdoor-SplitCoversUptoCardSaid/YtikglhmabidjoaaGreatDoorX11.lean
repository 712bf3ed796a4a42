/- Texts LiL LiM LiN LiO of this proof, in this order. -/
import Derived.Test.YtikglhmabidjoaaGreatDoorX09
set_option linter.unusedVariables false
set_option linter.unusedSimpArgs false
set_option maxRecDepth 100000
set_option maxHeartbeats 4000000
namespace Go.Proofs.YtikglhmabidjoaaGreatDoor.Lf
open Go.RowKit Nt
structure PthI (q : Qu) (P : List Dc) : Prop where
 fit : ∀ d ∈ P, fitB q d = true
 sm : ∀ d ∈ P, d.at_.sm
 bt : ∀ d ∈ P, Bt 128 d.at_.q
 tw : twB P = false
theorem PthI.snoc {q : Qu} {P : List Dc} {d : Dc} (h : PthI q P) (hf : fitB q d = true) (hs : d.at_.sm) (hb : Bt 128 d.at_.q) (ht : twB (P ++ [d]) = false) : PthI q (P ++ [d]) := by
 refine ⟨fun x hx => ?_, fun x hx => ?_, fun x hx => ?_, ht⟩
 ·
  rcases List.mem_append.1 hx with h5 | h5
  ·
   exact h.fit x h5
  ·
   rw [List.mem_singleton.1 h5]; exact hf
 ·
  rcases List.mem_append.1 hx with h5 | h5
  ·
   exact h.sm x h5
  ·
   rw [List.mem_singleton.1 h5]; exact hs
 ·
  rcases List.mem_append.1 hx with h5 | h5
  ·
   exact h.bt x h5
  ·
   rw [List.mem_singleton.1 h5]; exact hb
theorem ext_tw {P : List Dc} {d : Dc} (h : extE P d = 0) : twB (P ++ [d]) = false ∧ extP P d = P ++ [d] := by
 refine ⟨?_, by rw [extP, if_pos h]⟩
 unfold extE at h
 repeat' split at h
 all_goals first | omega | simp_all
structure ScI (s : Sp) : Prop where
 q : QuB s.q
 p : PthI s.q s.path
 pl : s.path.length ≤ 13
 ll : s.ls.length ≤ 40
 ln : ∀ m ∈ s.ls, m.v.sm
 lb : ∀ m ∈ s.ls, Bt 300000000 m.v.q
theorem ScI.sp {s : Sp} (h : ScI s) : SpOk s :=
 ⟨h.q.ok, tL_ h.pl (by decide), h.p.sm, tL_ h.ll (by decide), h.ln, fun x hx => (h.q.r.sl x hx).mono (by decide), fun x hx => (h.q.r.sh x hx).mono (by decide), fun d hd => (h.p.bt d hd).mono (by decide), h.lb⟩
theorem lx_scope {raw : List Nat} {P : List Dc} {L : List Lm} (h : RawOk raw) (hs : SmlA raw P L) (hw : ∀ d ∈ P, DcW d) (hlw : ∀ m ∈ L, LmW m) :
  ∃ s : Sp, (ScI s ∧ ∃ (J : Nat) (l0 : List Lm), LmsOk J l0 ∧ s.ls = l0 ++ L) ∧ LV Tryz.prog 9 [.a (.d (bysD raw)), .a (.d (dcsD P)), .a (.d (lmsD L))] (.agg s.A) := by
 suffices hh : LX Tryz.prog 9 [.a (.d (bysD raw)), .a (.d (dcsD P)), .a (.d (lmsD L))] [] fun v H => ∃ s : Sp, (ScI s ∧ ∃ (J : Nat) (l0 : List Lm), LmsOk J l0 ∧ s.ls = l0 ++ L) ∧ v = .agg s.A ∧ H = [] by
  obtain ⟨v, H', ⟨s, h1, rfl, rfl⟩, hc⟩ := hh
  exact ⟨s, h1, _, _, ⟨rfl, rfl⟩, hc⟩
 have hPl := hs.len
 have hLl := hs.ll
 obtain ⟨q, P0, ls, ⟨hq, hP0, hl0, o1, o2⟩, c⟩ := lx_derived h
 have hI0 : PthI q P0 := ⟨hP0.fit, hP0.sm, fun d hd => (hP0.bt d hd).mono (by decide), hP0.tw⟩
 refine LX_run (m := 0) (n0 := 0) mix Tryz.func9 rfl rfl rfl rfl ?_
 conv => whnf
 refine .c (c) ?_
 conv => whnf
 refine .mk (P0.map Dc.D) rfl rfl (by simp; omega) ?_
 conv => whnf
 refine .mk (Nat × List Dc) (fun (j, Q) => ⟨[(21, vl (.int .i64 (j : Nat))), (20, vl (.int .i64 (P.map Dc.D).length)), (19, .a (.d (dcsD P))), (7, .a (.ptr 1 0)), (6, .a (.ptr 0 0)), (2, .a (.d (lmsD L)))], [(0, .box 43 zSp), (1, .box 43 (Sp.A ⟨q, Q, ls⟩))], 3⟩)
  (fun b => b.1 ≤ P.length ∧ PthI q b.2 ∧ b.2.length ≤ 3 + b.1) (fun b => P.length - b.1) (0, P0) (Wk.go (h2 := ⟨⟨_, rfl, wke_refl _, rfl⟩, ⟨_, rfl, ⟨_, rfl, aR_ _, aR_ _, aR_ _, aR_ _, aR_ _, aR_ _, aR_ _, aR_ _, aR_ _, aR_ _, WkA.own, aR_ _, trivial⟩, rfl⟩, trivial⟩)) ⟨zL_ _, hI0, by simp only; omega⟩ fun ⟨j, Q⟩ hb => ?_
 obtain ⟨hj, hQ, hQl⟩ := hb
 simp only at hj hQ hQl
 conv => whnf
 refine bs (fun h1 => ?_) (fun h1 => ?_)
 ·
  conv => whnf
  have h1' : j < P.length := by simpa using h1
  obtain ⟨d, hd⟩ := at_some h1'
  have hdm := mG_ hd
  obtain ⟨d4, d5⟩ := hs.dc d hdm
  obtain ⟨d6, d7⟩ := hw d hdm
  have hdb := bt_raw d4 d5 d6 d7
  have hsm : d.at_.sm := ⟨by omega, by omega⟩
  refine .mk (j) (d.D) (rfl) (at_map hd) ?_
  conv => whnf
  conv => whnf
  refine .c (lx_zFits hq.ok hsm) ?_
  conv => whnf
  refine bs (fun h2 => ?_) (fun h2 => ?_)
  ·
   conv => whnf
   refine .c (lx_zextend (l := Q) (by omega) hQ.sm hsm) ?_
   conv => whnf
   refine bs (fun h3 => ?_) (fun h3 => ?_)
   ·
    conv => whnf
    have h3' : extE Q d = 0 := by simpa using h3
    obtain ⟨t1, t2⟩ := ext_tw h3'
    rw [t2]
    exact ⟨(j + 1, Q ++ [d]), Wk.go, ⟨h1', hQ.snoc h2 hsm hdb t1, by simp; omega⟩, by simp only; omega⟩
   ·
    conv => whnf
    exact ⟨(j + 1, Q), Wk.go, ⟨h1', hQ, by simp only; omega⟩, by simp only; omega⟩
  ·
   conv => whnf
   exact ⟨(j + 1, Q), Wk.go, ⟨h1', hQ, by simp only; omega⟩, by simp only; omega⟩
 ·
  conv => whnf
  refine .mk (ls.map Lm.D) rfl rfl (by simp; omega) ?_
  conv => whnf
  refine .mk ((ls ++ L).map Lm.D) rfl (by rw [List.map_append]) (by simp; omega) ?_
  conv => whnf
  have hsm : ∀ m ∈ ls ++ L, m.v.sm ∧ Bt 300000000 m.v.q := fun m hm => by
   rcases List.mem_append.1 hm with h5 | h5
   ·
    obtain ⟨_, _, ⟨x, e, hx⟩, _⟩ := o1 m h5
    have hb := beta_le m.u.toNat
    rw [e, can_q]
    exact ⟨Sz.sm (hx.mono (by omega)), hx.mono (by omega)⟩
   ·
    obtain ⟨w1, w2, _⟩ := hlw m h5
    obtain ⟨w3, w4⟩ := hs.lm m h5
    exact ⟨⟨by omega, by omega⟩, (bt_raw w3 w4 w1 w2).mono (by decide)⟩
  exact .s ⟨⟨q, Q, ls ++ L⟩, ⟨⟨hq, hQ, by simp only; omega, by simp; omega, fun m hm => (hsm m hm).1, fun m hm => (hsm m hm).2⟩, q.g.us.length, ls, o1, rfl⟩, rfl, rfl⟩
def RsB (K : Nat) (v : List Rat) : Prop := ∀ q ∈ v, Bt K q
theorem RsB.up {K K' : Nat} {v : List Rat} (h : RsB K v) (hk : K ≤ K') : RsB K' v := fun q hq => (h q hq).mono hk
theorem RsB.snoc {K : Nat} {v : List Rat} {x : Rat} (h : RsB K v) (hx : Bt K x) : RsB K (v ++ [x]) := fun q hq => by
 rcases List.mem_append.1 hq with h1 | h1
 ·
  exact h q h1
 ·
  rw [List.mem_singleton.1 h1]; exact hx
theorem lx_zeval {f : Af} {v : List Rat} {n : Nat} {k V : Nat} (h : FB k n f) (hv : RsB V v) (hn : n ≤ v.length) (hN : n ≤ 7) (hk : k + 7 * (k + V + 1) ≤ 1000000000) :
  ∃ y, Bt (k + 7 * (k + V + 1)) y ∧ LV Tryz.prog 103 [.agg f.A, .a (.d (rqsD v))] (.tup [.g (can y).A, .s (.d (.lit (.int .i64 0)))]) := by
 suffices hh : LX Tryz.prog 103 [.agg f.A, .a (.d (rqsD v))] [] fun w H => ∃ y, Bt (k + 7 * (k + V + 1)) y ∧ w = .tup [.g (can y).A, .s (.d (.lit (.int .i64 0)))] ∧ H = [] by
  obtain ⟨w, H', ⟨y, h1, rfl, rfl⟩, hc⟩ := hh
  exact ⟨y, h1, _, _, ⟨rfl, rfl⟩, hc⟩
 have hlen := h.ts.len (by omega)
 refine LX_run (m := 0) (n0 := 0) mix Tryz.func103 rfl rfl rfl rfl ?_
 conv => whnf
 refine .mk (Nat × Rat) (fun (i, y) => ⟨[(7, vl (.int .i64 (i : Nat))), (6, .a (.ptr 2 0)), (4, .a (.ptr 1 0)), (2, .a (.ptr 0 0)), (1, .a (.d (rqsD v)))], [(0, .box 39 f.A), (1, .box 37 [.d (.lit (.bool false)), .d (.nat 0), .d (.nat 0)]), (2, .box 37 (can y).A)], 3⟩)
  (fun b => b.1 ≤ f.ts.length ∧ Bt (k + b.1 * (k + V + 1)) b.2) (fun b => f.ts.length - b.1) (0, f.c) Wk.go ⟨zL_ _, h.c.mono (by omega)⟩ fun ⟨i, y⟩ hb => ?_
 obtain ⟨hi, hy⟩ := hb
 simp only at hi hy
 have hm : i * (k + V + 1) ≤ 7 * (k + V + 1) := Nat.mul_le_mul_right _ (by omega)
 conv => whnf
 refine bs (fun h1 => ?_) (fun h1 => ?_)
 ·
  conv => whnf
  have h1' : i < f.ts.length := by simpa using h1
  obtain ⟨t, ht⟩ := at_some h1'
  obtain ⟨t1, t2, t3, t4⟩ := h.tm t (mG_ ht)
  obtain ⟨tv, tq⟩ := t
  simp only at t1 t2 t3 t4
  obtain ⟨j, rfl⟩ : ∃ j : Nat, tv = j := ⟨tv.toNat, by omega⟩
  obtain ⟨x, hx⟩ := at_some (l := v) (i := j) (by omega)
  have xb := hv x (mG_ hx)
  have hyn : Bt (k + (i + 1) * (k + V + 1)) (y + tq * x) := (hy.add (t4.mul xb)).mono (by rw [Nat.add_mul i 1, Nat.one_mul]; omega)
  refine .mk (i) ((Tm.D ⟨(j : Int), tq⟩)) (rfl) (at_map ht) ?_
  conv => whnf
  conv => whnf
  refine bF (decide_eq_false (show ¬ ((j : Int) ≥ ((v.map fun q => (can q).D).length : Int)) by rw [List.length_map]; omega)) ?_
  conv => whnf
  refine .mk (j) ((can x).D) (rfl) (at_map (f := fun q => (can q).D) hx) ?_
  conv => whnf
  conv => whnf
  refine .c (lx_zmul (.c (t4.mono (by omega))) (.c (xb.mono (by omega)))) ?_
  conv => whnf
  refine .c (lx_zadd (.c (hy.mono (by omega))) (.c ((t4.mul xb).mono (by omega)))) ?_
  conv => whnf
  refine .mk (by kernel_rfl) ?_
  conv => whnf
  exact ⟨(i + 1, y + tq * x), Wk.go, ⟨h1', hyn⟩, by simp only; omega⟩
 ·
  conv => whnf
  exact .q ⟨y, hy.mono (by omega), rfl, rfl⟩
theorem RQ0 : RQ (V.agg [A.d (.lit (.bool false)), .d (.lm (limbs 0)), .d (.lm (limbs 0))]) 0 := by rw [rat0V]; exact .c sz0
def vB : Nat → Nat
 | 0 => 50
 | j + 1 => 7 * vB j + 60
theorem vB_mono {m k : Nat} (h : m ≤ k) : vB m ≤ vB k := by
 induction k with
 | zero => rw [show m = 0 by omega]; exact lR_ _
 | succ k ih =>
   rcases Nat.lt_or_ge k m with h1 | h1
   ·
    rw [show m = k + 1 by omega]; exact lR_ _
   ·
    have := ih h1; simp only [vB]; omega
theorem lx_zvalues {g : Gr} {x : List Rat} (hg : GrB g) (hx : x.length = g.n) (hb : RsB 50 x) :
  ∃ v, (v.length = g.n + g.us.length ∧ RsB (vB 4) v) ∧ LV Tryz.prog 187 [.agg g.A, .a (.d (rqsD x))] (.tup [.s (.d (rqsD v)), .s (.d (.lit (.int .i64 0)))]) := by
 suffices hh : LX Tryz.prog 187 [.agg g.A, .a (.d (rqsD x))] [] fun w H => ∃ v, (v.length = g.n + g.us.length ∧ RsB (vB 4) v) ∧ w = .tup [.s (.d (rqsD v)), .s (.d (.lit (.int .i64 0)))] ∧ H = [] by
  obtain ⟨w, H', ⟨y, h1, rfl, rfl⟩, hc⟩ := hh
  exact ⟨y, h1, _, _, ⟨rfl, rfl⟩, hc⟩
 have hn2 := hg.n2; have hu1 := hg.u1
 have hv4 : vB 4 ≤ 200000 := by decide
 refine LX_run (m := 0) (n0 := 0) mix Tryz.func187 rfl rfl rfl rfl ?_
 conv => whnf
 refine .c (lx_zgvalid hg.ok) ?_
 conv => whnf
 refine bs (fun h0 => ?_) (fun h0 => ?_)
 ·
  exfalso
  simp at h0; omega
 ·
  conv => whnf
  refine .mk Nat (fun i => ⟨[(7, vl (.int .i64 (i : Nat))), (6, .a (.own 1 3 ((x.take i).map fun q => (can q).D))), (2, .a (.ptr 0 0)), (1, .a (.d (rqsD x)))], [(0, .box 29 g.A), (1, .arr 37 3 ((x.take i).map fun q => (can q).D).length)], 2⟩) (fun i => i ≤ x.length) (fun i => x.length - i) 0 (Wk.trans (Wk.own 6 1 37 3 rfl rfl (zL_ _)) Wk.go) (zL_ _) fun i hi => ?_
  conv => whnf
  refine bs (fun h1 => ?_) (fun h1 => ?_)
  ·
   conv => whnf
   have h1' : i < x.length := by simpa using h1
   obtain ⟨a, ha⟩ := at_some h1'
   have hab := hb a (mG_ ha)
   refine .mk (i) ((can a).D) (rfl) (at_map (f := fun q => (can q).D) ha) ?_
   conv => whnf
   conv => whnf
   refine .c (lx_zcanon (.c (hab.mono (by decide)))) ?_
   conv => whnf
   refine .mk ((x.take (i + 1)).map fun q => (can q).D) rfl (by rw [take_snoc ha, List.map_append]; rfl) (by simp; omega) ?_
   conv => whnf
   exact ⟨i + 1, Wk.go, h1', by omega⟩
  ·
   conv => whnf
   have e : i = x.length := by simp at h1; omega
   rw [e, List.take_length]
   refine .mk (Nat × List Rat) (fun (j, v) => ⟨[(8, vl (.int .i64 (j : Nat))), (6, .a (.own 1 3 (v.map fun q => (can q).D))), (2, .a (.ptr 0 0))], [(0, .box 29 g.A), (1, .arr 37 3 (v.map fun q => (can q).D).length)], 2⟩) (fun b => b.1 ≤ g.us.length ∧ b.2.length = g.n + b.1 ∧ RsB (vB b.1) b.2) (fun b => g.us.length - b.1) (0, x) Wk.go ⟨zL_ _, by simp only; omega, hb⟩ fun ⟨j, v⟩ hb2 => ?_
   obtain ⟨hj, hvl, hvb⟩ := hb2
   simp only at hj hvl hvb
   have hvm := vB_mono (show j ≤ 4 by omega)
   conv => whnf
   refine bs (fun h2 => ?_) (fun h2 => ?_)
   ·
    conv => whnf
    have h2' : j < g.us.length := by simpa using h2
    obtain ⟨p, hp⟩ := at_some h2'
    obtain ⟨y, hy, cy⟩ := lx_zeval (hg.us j p hp) hvb (by omega) (by omega) (by omega)
    have hyj : Bt (vB (j + 1)) (if 0 ≤ y then y else 0) := by
     split
     ·
      exact hy.mono (by simp only [vB]; omega)
     ·
      exact bt0 _
    refine .mk (j) (p.D) (rfl) (at_map hp) ?_
    conv => whnf
    conv => whnf
    refine .c (cy) ?_
    conv => whnf
    refine .c (lx_zmax (.c (hy.mono (by omega))) RQ0) ?_
    conv => whnf
    refine .mk ((v ++ [if 0 ≤ y then y else 0]).map fun q => (can q).D) rfl (by rw [List.map_append]; rfl) (by simp; omega) ?_
    conv => whnf
    exact ⟨(j + 1, v ++ [if 0 ≤ y then y else 0]), Wk.go, ⟨h2', by simp; omega, (hvb.up (vB_mono (Nat.le_succ j))).snoc hyj⟩, by simp only; omega⟩
   ·
    conv => whnf
    have e2 : j = g.us.length := by simp at h2; omega
    exact .s ⟨v, ⟨by omega, hvb.up hvm⟩, rfl, rfl⟩
theorem lx_zpre {g : Gr} {x : List Rat} (hg : GrB g) (hx : x.length = g.n) (hb : RsB 50 x) :
  ∃ v, (v.length = g.us.length ∧ RsB (7 * vB 4 + 60) v) ∧ LV Tryz.prog 104 [.agg g.A, .a (.d (rqsD x))] (.tup [.s (.d (rqsD v)), .s (.d (.lit (.int .i64 0)))]) := by
 have hn2 := hg.n2; have hu1 := hg.u1
 have hv4 : vB 4 ≤ 200000 := by decide
 obtain ⟨vs, ⟨k1, k2⟩, cv⟩ := lx_zvalues hg hx hb
 have hf : ∃ v, (v.length = g.us.length ∧ RsB (7 * vB 4 + 60) v) ∧ LV Tryz.prog 151 [.agg g.A, .a (.d (afsD g.us)), .a (.d (rqsD x))] (.tup [.s (.d (rqsD v)), .s (.d (.lit (.int .i64 0)))]) := by
  suffices hh : LX Tryz.prog 151 [.agg g.A, .a (.d (afsD g.us)), .a (.d (rqsD x))] [] fun w H => ∃ v, (v.length = g.us.length ∧ RsB (7 * vB 4 + 60) v) ∧ w = .tup [.s (.d (rqsD v)), .s (.d (.lit (.int .i64 0)))] ∧ H = [] by
   obtain ⟨w, H', ⟨y, h1, rfl, rfl⟩, hc⟩ := hh
   exact ⟨y, h1, _, _, ⟨rfl, rfl⟩, hc⟩
  refine LX_run (m := 0) (n0 := 0) mix Tryz.func151 rfl rfl rfl rfl ?_
  conv => whnf
  refine .c (cv) ?_
  conv => whnf
  refine .mk (Nat × List Rat) (fun (j, v) => ⟨[(11, vl (.int .i64 (j : Nat))), (10, .a (.own 1 3 (v.map fun q => (can q).D))), (8, .a (.d (rqsD vs))), (1, .a (.d (afsD g.us)))], [(1, .arr 37 3 (v.map fun q => (can q).D).length)], 2⟩) (fun b => b.1 ≤ g.us.length ∧ b.2.length = b.1 ∧ RsB (7 * vB 4 + 60) b.2) (fun b => g.us.length - b.1) (0, []) (Wk.trans (Wk.own 10 1 37 3 rfl rfl (zL_ _)) Wk.go) ⟨zL_ _, rfl, fun q h => (by cases h)⟩ fun ⟨j, v⟩ hb2 => ?_
  obtain ⟨hj, hvl, hvb⟩ := hb2
  simp only at hj hvl hvb
  conv => whnf
  refine bs (fun h2 => ?_) (fun h2 => ?_)
  ·
   conv => whnf
   have h2' : j < g.us.length := by simpa using h2
   obtain ⟨p, hp⟩ := at_some h2'
   obtain ⟨y, hy, cy⟩ := lx_zeval (hg.us j p hp) k2 (by omega) (by omega) (by omega)
   refine .mk (j) (p.D) (rfl) (at_map hp) ?_
   conv => whnf
   conv => whnf
   refine .c (cy) ?_
   conv => whnf
   refine .mk ((v ++ [y]).map fun q => (can q).D) rfl (by rw [List.map_append]; rfl) (by simp; omega) ?_
   conv => whnf
   exact ⟨(j + 1, v ++ [y]), Wk.go, ⟨h2', by simp; omega, hvb.snoc (hy.mono (by omega))⟩, by simp only; omega⟩
  ·
   conv => whnf
   have e2 : j = g.us.length := by simp at h2; omega
   exact .s ⟨v, ⟨by omega, hvb⟩, rfl, rfl⟩
 obtain ⟨v, h1, c⟩ := hf
 refine ⟨v, h1, ?_⟩
 refine LX_run (m := 0) (n0 := 0) mix Tryz.func104 rfl rfl rfl rfl ?_
 conv => whnf
 refine .c (c) ?_
 conv => whnf
 exact .q ⟨rfl, rfl⟩
theorem lx_inside {r : Rg} {n : Nat} {pl : List Nat} (hr : RgB r n) (hn : n ≤ 3) (hp : RawOk pl) :
  ∃ x, (x.length = n ∧ RsB 50 x) ∧ LV Tryz.prog 19 [.agg r.A, .a (.d (bysD pl))] (.a (.d (rqsD x))) := by
 suffices hh : LX Tryz.prog 19 [.agg r.A, .a (.d (bysD pl))] [] fun w H => ∃ x, (x.length = n ∧ RsB 50 x) ∧ w = .a (.d (rqsD x)) ∧ H = [] by
  obtain ⟨w, H', ⟨y, h1, rfl, rfl⟩, hc⟩ := hh
  exact ⟨y, h1, _, _, ⟨rfl, rfl⟩, hc⟩
 have hlo := hr.lo; have hhi := hr.hi; have hpl := hp.len
 refine LX_run (m := 0) (n0 := 0) mix Tryz.func19 rfl rfl rfl rfl ?_
 conv => whnf
 refine .mk (Nat × List Rat) (fun (i, v) => ⟨[(6, vl (.int .i64 (i : Nat))), (5, .a (.own 1 3 (v.map fun q => (can q).D))), (2, .a (.ptr 0 0)), (1, .a (.d (bysD pl)))], [(0, .box 32 r.A), (1, .arr 37 3 (v.map fun q => (can q).D).length)], 2⟩) (fun b => b.1 ≤ n ∧ b.2.length = b.1 ∧ RsB 50 b.2) (fun b => n - b.1) (0, []) (Wk.trans (Wk.own 5 1 37 3 rfl rfl (zL_ _)) Wk.go) ⟨zL_ _, rfl, fun q h => (by cases h)⟩ fun ⟨i, v⟩ hb2 => ?_
 obtain ⟨hi, hvl, hvb⟩ := hb2
 simp only at hi hvl hvb
 conv => whnf
 refine bs (fun h1 => ?_) (fun h1 => ?_)
 ·
  conv => whnf
  have h1' : i < n := by simp at h1; omega
  obtain ⟨a, ha⟩ := at_some (l := r.lo) (i := i) (by omega)
  obtain ⟨b, hb⟩ := at_some (l := r.hi) (i := i) (by omega)
  have ab := hr.sl a (mG_ ha)
  have bb := hr.sh b (mG_ hb)
  have fb : ∀ k : Nat, k ≤ 8 → Bt 6 (((k : Int) : Rat) / ((8 : Int) : Rat)) := fun k hk =>
   (Bt.int (k := 3) (by simp; omega)).div (Bt.int (k := 3) (by decide)) (by decide)
  have nx : ∀ k : Nat, k ≤ 8 → Bt 50 (a + ((k : Int) : Rat) / ((8 : Int) : Rat) * (b - a)) := fun k hk => (ab.add ((fb k hk).mul (bb.sub ab))).mono (by decide)
  refine bs (fun h2 => ?_) (fun h2 => ?_)
  ·
   conv => whnf
   have h2' : i < pl.length := by simpa using h2
   obtain ⟨y, hy⟩ := at_some h2'
   have hyb := hp.by_ y (mG_ hy)
   refine .mk (i) ([.lit (.int .u8 (y : Nat))]) (rfl) (at_map hy) ?_
   conv => whnf
   conv => whnf
   have hw : IntKind.i64.wrap ((y : Int).tmod 9) = ((y % 9 : Nat) : Int) := by rw [show (y : Int).tmod 9 = ((y % 9 : Nat) : Int) from rfl, wr64 (by omega) (by omega)]
   rw [hw]
   refine .c (lx_zfrac (y := (((y % 9 : Nat) : Int))) (z := 8) (by omega) (by omega) (by omega) (by omega) (by omega)) ?_
   conv => whnf
   refine .mk (i) ((can a).D) (rfl) (at_map (f := fun q => (can q).D) ha) ?_
   conv => whnf
   conv => whnf
   refine .mk (i) ((can b).D) (rfl) (at_map (f := fun q => (can q).D) hb) ?_
   conv => whnf
   conv => whnf
   refine .mk (i) ((can a).D) (rfl) (at_map (f := fun q => (can q).D) ha) ?_
   conv => whnf
   conv => whnf
   refine .c (lx_zsub (.c (bb.mono (by decide))) (.c (ab.mono (by decide)))) ?_
   conv => whnf
   refine .c (lx_zmul (.c ((fb (y % 9) (by omega)).mono (by decide))) (.c ((bb.sub ab).mono (by decide)))) ?_
   conv => whnf
   refine .c (lx_zadd (.c (ab.mono (by decide))) (.c (((fb (y % 9) (by omega)).mul (bb.sub ab)).mono (by decide)))) ?_
   conv => whnf
   refine .mk ((v ++ [a + (((y % 9 : Nat) : Int) : Rat) / ((8 : Int) : Rat) * (b - a)]).map fun q => (can q).D) rfl (by rw [List.map_append]; rfl) (by simp; omega) ?_
   conv => whnf
   refine .mk (by kernel_rfl) ?_
   conv => whnf
   exact ⟨(i + 1, v ++ [a + (((y % 9 : Nat) : Int) : Rat) / ((8 : Int) : Rat) * (b - a)]), Wk.go, ⟨h1', by simp; omega, hvb.snoc (nx (y % 9) (by omega))⟩, by simp only; omega⟩
  ·
   conv => whnf
   refine .c (lx_zfrac (y := (((0 : Nat) : Int))) (z := 8) (by omega) (by omega) (by omega) (by omega) (by omega)) ?_
   conv => whnf
   refine .mk (i) ((can a).D) (rfl) (at_map (f := fun q => (can q).D) ha) ?_
   conv => whnf
   conv => whnf
   refine .mk (i) ((can b).D) (rfl) (at_map (f := fun q => (can q).D) hb) ?_
   conv => whnf
   conv => whnf
   refine .mk (i) ((can a).D) (rfl) (at_map (f := fun q => (can q).D) ha) ?_
   conv => whnf
   conv => whnf
   refine .c (lx_zsub (.c (bb.mono (by decide))) (.c (ab.mono (by decide)))) ?_
   conv => whnf
   refine .c (lx_zmul (.c ((fb (0) (by omega)).mono (by decide))) (.c ((bb.sub ab).mono (by decide)))) ?_
   conv => whnf
   refine .c (lx_zadd (.c (ab.mono (by decide))) (.c (((fb (0) (by omega)).mul (bb.sub ab)).mono (by decide)))) ?_
   conv => whnf
   refine .mk ((v ++ [a + (((0 : Nat) : Int) : Rat) / ((8 : Int) : Rat) * (b - a)]).map fun q => (can q).D) rfl (by rw [List.map_append]; rfl) (by simp; omega) ?_
   conv => whnf
   refine .mk (by kernel_rfl) ?_
   conv => whnf
   exact ⟨(i + 1, v ++ [a + (((0 : Nat) : Int) : Rat) / ((8 : Int) : Rat) * (b - a)]), Wk.go, ⟨h1', by simp; omega, hvb.snoc (nx (0) (by omega))⟩, by simp only; omega⟩
 ·
  conv => whnf
  have e : i = n := by simp at h1; omega
  exact .s ⟨v, ⟨by omega, hvb⟩, rfl, rfl⟩
theorem lx_contains {r : Rg} {n : Nat} {x : List Rat} (hr : RgB r n) (h1 : 1 ≤ n) (h2 : n ≤ 3) (hx : x.length = n) (hb : RsB 50 x) : ∃ b, LV Tryz.prog 51 [.agg r.A, .a (.d (rqsD x))] (vl (.bool b)) := by
 suffices hh : LX Tryz.prog 51 [.agg r.A, .a (.d (rqsD x))] [] fun w H => ∃ b, w = vl (.bool b) ∧ H = [] by
  obtain ⟨w, H', ⟨y, rfl, rfl⟩, hc⟩ := hh
  exact ⟨y, _, _, ⟨rfl, rfl⟩, hc⟩
 have hlo := hr.lo; have hhi := hr.hi; have hrl := hr.rl
 refine LX_run (m := 0) (n0 := 0) mix Tryz.func51 rfl rfl rfl rfl ?_
 conv => whnf
 refine .c (lx_zown (hr.ok h1 h2)) ?_
 conv => whnf
 refine bF (by rw [List.length_map, List.length_map, hx, hlo]; simp) ?_
 conv => whnf
 refine .mk Nat (fun i => ⟨[(5, vl (.int .i64 (i : Nat))), (2, .a (.ptr 0 0)), (1, .a (.d (rqsD x)))], [(0, .box 32 r.A)], 1⟩) (fun i => i ≤ n) (fun i => n - i) 0 Wk.go (zL_ _) fun i hi => ?_
 conv => whnf
 refine bs (fun h3 => ?_) (fun h3 => ?_)
 ·
  conv => whnf
  have h3' : i < n := by simp at h3; omega
  obtain ⟨a, ha⟩ := at_some (l := r.lo) (i := i) (by omega)
  obtain ⟨b, hb'⟩ := at_some (l := r.hi) (i := i) (by omega)
  obtain ⟨y, hy⟩ := at_some (l := x) (i := i) (by omega)
  have ab := hr.sl a (mG_ ha)
  have bb := hr.sh b (mG_ hb')
  have yb := hb y (mG_ hy)
  repeat' first | (refine bs (fun h => ?_) (fun h => ?_) <;> conv => whnf) | (refine Nc.mk (by kernel_rfl) ?_; conv => whnf) | (refine .c (lx_zcmp (.c (yb.mono (by decide))) (.c (ab.mono (by decide)))) ?_; conv => whnf) | (refine .c (lx_zcmp (.c (yb.mono (by decide))) (.c (bb.mono (by decide)))) ?_; conv => whnf) | (refine .mk i ((can a).D) rfl (at_map (f := fun q => (can q).D) ha) ?_; conv => whnf) | (refine .mk i ((can b).D) rfl (at_map (f := fun q => (can q).D) hb') ?_; conv => whnf) | (refine .mk i ((can y).D) rfl (at_map (f := fun q => (can q).D) hy) ?_; conv => whnf)
  all_goals first
   | exact .q ⟨_, rfl, rfl⟩
   | exact ⟨i + 1, Wk.go, h3', by omega⟩
 ·
  conv => whnf
  refine .mk Nat (fun i => ⟨[(6, vl (.int .i64 (i : Nat))), (2, .a (.ptr 0 0)), (1, .a (.d (rqsD x)))], [(0, .box 32 r.A)], 1⟩) (fun i => i ≤ r.rs.length) (fun i => r.rs.length - i) 0 Wk.go (zL_ _) fun i hi => ?_
  conv => whnf
  refine bs (fun h4 => ?_) (fun h4 => ?_)
  ·
   conv => whnf
   have h4' : i < r.rs.length := by simpa using h4
   obtain ⟨f, hf⟩ := at_some h4'
   obtain ⟨y, hy, cy⟩ := lx_zeval (hr.rs f (mG_ hf)) hb (by omega) (by omega) (by omega)
   refine .mk (i) (f.D) (rfl) (at_map hf) ?_
   conv => whnf
   conv => whnf
   refine .c (cy) ?_
   conv => whnf
   refine .c (lx_zsign (.c (hy.mono (by omega)))) ?_
   conv => whnf
   refine bs (fun h5 => ?_) (fun h5 => ?_)
   ·
    conv => whnf
    exact .q ⟨_, rfl, rfl⟩
   ·
    conv => whnf
    exact ⟨i + 1, Wk.go, h4', by omega⟩
  ·
   conv => whnf
   exact .q ⟨_, rfl, rfl⟩
def hoB (q : Qu) (x pre : List Rat) (d : Dc) : Bool :=
 fitB q d && (if d.k = 3 then decide (cmpQ (atQ x d.i) d.at_.q ≥ 0) else if d.k = 4 then decide (cmpQ (atQ x d.i) d.at_.q ≤ 0) else if d.k = 1 then decide ((atQ pre d.i).num.sign ≥ 0) else decide ((atQ pre d.i).num.sign ≤ 0))
theorem atQ_some {l : List Rat} {i : Int} (h : 0 ≤ i) (h2 : i < l.length) : l[i.toNat]? = some (atQ l i) := by
 unfold atQ
 obtain ⟨x, hx⟩ := at_some (l := l) (i := i.toNat) (by omega)
 rw [hx]; rfl
theorem lx_holds {q : Qu} {d : Dc} {x pre : List Rat} (hq : QuB q) (hd : d.at_.sm) (hx : x.length = q.g.n) (hb : RsB 50 x) (hpl : pre.length = q.g.us.length) (hpb : RsB (7 * vB 4 + 60) pre)
  (cp : LV Tryz.prog 104 [.agg q.g.A, .a (.d (rqsD x))] (.tup [.s (.d (rqsD pre)), .s (.d (.lit (.int .i64 0)))])) : LV Tryz.prog 52 [.agg q.A, .agg d.A, .a (.d (rqsD x))] (vl (.bool (hoB q x pre d))) := by
 have hv4 : vB 4 ≤ 200000 := by decide
 refine LX_run (m := 0) (n0 := 0) mix Tryz.func52 rfl rfl rfl rfl ?_
 conv => whnf
 refine .c (lx_zFits hq.ok hd) ?_
 conv => whnf
 refine bs (fun hf => ?_) (fun hf => ?_)
 ·
  conv => whnf
  refine bF (by rw [List.length_map, hx]; simp) ?_
  conv => whnf
  have fx := fun hk => fits_ix hf hk
  have ho : ∀ b, hoB q x pre d = b ↔ (if d.k = 3 then decide (cmpQ (atQ x d.i) d.at_.q ≥ 0) else if d.k = 4 then decide (cmpQ (atQ x d.i) d.at_.q ≤ 0) else if d.k = 1 then decide ((atQ pre d.i).num.sign ≥ 0) else decide ((atQ pre d.i).num.sign ≤ 0)) = b := fun b => by rw [hoB, hf, Bool.true_and]
  generalize hoB q x pre d = R at *
  refine bs (fun h3 => ?_) (fun h3 => ?_)
  ·
   conv => whnf
   have k3 : d.k = 3 := by simpa using h3
   obtain ⟨i1, i2⟩ := fx (.inl k3)
   have hx2 := atQ_some (l := x) i1 (by omega)
   have xb := hb _ (mG_ hx2)
   simp only [if_pos k3] at ho
   refine .mk (d.i.toNat) ((can (atQ x d.i)).D) (by omega) (at_map (f := fun q => (can q).D) hx2) ?_
   conv => whnf
   conv => whnf
   refine .c (lx_zcmp (.c (xb.mono (by decide))) hd.rq) ?_
   conv => whnf
   refine bs (fun h5 => ?_) (fun h5 => ?_)
   ·
    conv => whnf
    refine .mk (by kernel_rfl) ?_
    conv => whnf
    exact .q ⟨by rw [(ho true).2 h5], rfl⟩
   ·
    conv => whnf
    refine .mk (by kernel_rfl) ?_
    conv => whnf
    exact .q ⟨by rw [(ho false).2 h5], rfl⟩
  ·
   conv => whnf
   have k3 : ¬ d.k = 3 := by simpa using h3
   simp only [if_neg k3] at ho
   refine bs (fun h4 => ?_) (fun h4 => ?_)
   ·
    conv => whnf
    have k4 : d.k = 4 := by simpa using h4
    obtain ⟨i1, i2⟩ := fx (.inr k4)
    have hx2 := atQ_some (l := x) i1 (by omega)
    have xb := hb _ (mG_ hx2)
    simp only [if_pos k4] at ho
    refine .mk (d.i.toNat) ((can (atQ x d.i)).D) (by omega) (at_map (f := fun q => (can q).D) hx2) ?_
    conv => whnf
    conv => whnf
    refine .c (lx_zcmp (.c (xb.mono (by decide))) hd.rq) ?_
    conv => whnf
    refine bs (fun h5 => ?_) (fun h5 => ?_)
    ·
     conv => whnf
     refine .mk (by kernel_rfl) ?_
     conv => whnf
     exact .q ⟨by rw [(ho true).2 h5], rfl⟩
    ·
     conv => whnf
     refine .mk (by kernel_rfl) ?_
     conv => whnf
     exact .q ⟨by rw [(ho false).2 h5], rfl⟩
   ·
    conv => whnf
    have k4 : ¬ d.k = 4 := by simpa using h4
    simp only [if_neg k4] at ho
    have hk := fit_k hf
    have k12 : d.k = 1 ∨ d.k = 2 := by omega
    have ii : 0 ≤ d.i ∧ d.i < q.g.us.length := by
     have h := hf
     unfold fitB at h
     rw [if_pos k12] at h
     simp at h; omega
    have hx2 := atQ_some (l := pre) ii.1 (by omega)
    have pb := hpb _ (mG_ hx2)
    refine .c (cp) ?_
    conv => whnf
    refine bs (fun h1 => ?_) (fun h1 => ?_)
    ·
     conv => whnf
     have k1 : d.k = 1 := by simpa using h1
     simp only [if_pos k1] at ho
     refine .mk (d.i.toNat) ((can (atQ pre d.i)).D) (by omega) (at_map (f := fun q => (can q).D) hx2) ?_
     conv => whnf
     conv => whnf
     refine .c (lx_zsign (.c (pb.mono (by omega)))) ?_
     conv => whnf
     refine bs (fun h5 => ?_) (fun h5 => ?_)
     ·
      conv => whnf
      exact .q ⟨by rw [(ho true).2 h5], rfl⟩
     ·
      conv => whnf
      exact .q ⟨by rw [(ho false).2 h5], rfl⟩
    ·
     conv => whnf
     have k1 : ¬ d.k = 1 := by simpa using h1
     simp only [if_neg k1] at ho
     refine .mk (d.i.toNat) ((can (atQ pre d.i)).D) (by omega) (at_map (f := fun q => (can q).D) hx2) ?_
     conv => whnf
     conv => whnf
     refine .c (lx_zsign (.c (pb.mono (by omega)))) ?_
     conv => whnf
     refine bs (fun h5 => ?_) (fun h5 => ?_)
     ·
      conv => whnf
      exact .q ⟨by rw [(ho true).2 h5], rfl⟩
     ·
      conv => whnf
      exact .q ⟨by rw [(ho false).2 h5], rfl⟩
 ·
  conv => whnf
  exact .q ⟨by rw [hoB, hf]; rfl, rfl⟩
def memB (s : Sp) (c : Bool) (x pre : List Rat) : Bool := c && s.path.all (hoB s.q x pre)
theorem lx_member {s : Sp} {x pre : List Rat} {c : Bool} (hq : QuB s.q) (hsm : ∀ d ∈ s.path, d.at_.sm) (hl : s.path.length ≤ 1000) (hx : x.length = s.q.g.n) (hb : RsB 50 x) (hpl : pre.length = s.q.g.us.length) (hpb : RsB (7 * vB 4 + 60) pre)
  (cp : LV Tryz.prog 104 [.agg s.q.g.A, .a (.d (rqsD x))] (.tup [.s (.d (rqsD pre)), .s (.d (.lit (.int .i64 0)))])) (cc : LV Tryz.prog 51 [.agg s.q.r.A, .a (.d (rqsD x))] (vl (.bool c))) :
  LV Tryz.prog 20 [.agg s.A, .a (.d (rqsD x))] (vl (.bool (memB s c x pre))) := by
 refine LX_run (m := 0) (n0 := 0) mix Tryz.func20 rfl rfl rfl rfl ?_
 conv => whnf
 refine .c (lx_zquvalid hq.ok) ?_
 conv => whnf
 refine bF (by rw [List.length_map, hx]; simp) ?_
 conv => whnf
 refine .c (cc) ?_
 conv => whnf
 refine bs (fun hc => ?_) (fun hc => ?_)
 ·
  conv => whnf
  refine .mk Nat (fun i => ⟨[(5, vl (.int .i64 (i : Nat))), (2, .a (.ptr 0 0)), (1, .a (.d (rqsD x)))], [(0, .box 43 s.A)], 1⟩) (fun i => i ≤ s.path.length ∧ ∀ (j : Nat) y, j < i → s.path[j]? = some y → hoB s.q x pre y = true) (fun i => s.path.length - i) 0 Wk.go ⟨zL_ _, by intro j y h; omega⟩ fun i hi => ?_
  obtain ⟨hi, hall⟩ := hi
  conv => whnf
  refine bs (fun h1 => ?_) (fun h1 => ?_)
  ·
   conv => whnf
   have h1' : i < s.path.length := by simpa using h1
   obtain ⟨d, hd⟩ := at_some h1'
   refine .mk (i) (d.D) (rfl) (at_map hd) ?_
   conv => whnf
   conv => whnf
   refine .c (lx_holds hq (hsm d (mG_ hd)) hx hb hpl hpb cp) ?_
   conv => whnf
   refine bs (fun h2 => ?_) (fun h2 => ?_)
   ·
    conv => whnf
    refine .mk (by kernel_rfl) ?_
    conv => whnf
    refine ⟨i + 1, Wk.go, ⟨h1', fun j y hj hy => ?_⟩, by omega⟩
    rcases Nat.lt_succ_iff_lt_or_eq.1 hj with h3 | h3
    ·
     exact hall j y h3 hy
    ·
     subst h3; rw [hd] at hy; injection hy with hy; rw [← hy]; exact h2
   ·
    conv => whnf
    refine .mk (by kernel_rfl) ?_
    conv => whnf
    have e : memB s c x pre = false := by
     rw [memB, hc, Bool.true_and, List.all_eq_false]
     exact ⟨d, mG_ hd, by rw [h2]; exact Bool.false_ne_true⟩
    exact .q ⟨by rw [e], rfl⟩
  ·
   conv => whnf
   have e : memB s c x pre = true := by
    rw [memB, hc, Bool.true_and, List.all_eq_true]
    intro y hy
    obtain ⟨j, hj⟩ := List.mem_iff_getElem?.1 hy
    exact hall j y (by have := at_lt hj; simp at h1; omega) hj
   exact .q ⟨by rw [e], rfl⟩
 ·
  conv => whnf
  exact .q ⟨by rw [memB, hc]; rfl, rfl⟩
theorem ScI.step {s : Sp} {r : Int} (h : ScI s) (hr : csE s r = 0) :
  (csD s (onD (gMost (gapS s) (openS s))) r).at_.sm ∧ fitB s.q (csD s (onD (gMost (gapS s) (openS s))) r) = true ∧ kidE s (csD s (onD (gMost (gapS s) (openS s))) r) = 0 ∧ kidA s (csD s (onD (gMost (gapS s) (openS s))) r) = ⟨s.q, s.path ++ [csD s (onD (gMost (gapS s) (openS s))) r], s.ls⟩ ∧ kidB s (csD s (onD (gMost (gapS s) (openS s))) r) = ⟨s.q, s.path ++ [opD (csD s (onD (gMost (gapS s) (openS s))) r)], s.ls⟩ ∧
   ((∃ u : Nat, u < s.q.g.us.length ∧ phaseS s u = 0 ∧ csD s (onD (gMost (gapS s) (openS s))) r = onD u) ∨ ((csD s (onD (gMost (gapS s) (openS s))) r).k = 3 ∧ r = 2)) ∧ Bt 300000000 (csD s (onD (gMost (gapS s) (openS s))) r).at_.q := by
 have hs := h.sp
 have hq := h.q
 have hu1 := hq.g.u1
 have hle := h.pl
 generalize hd0 : csD s (onD (gMost (gapS s) (openS s))) r = d at *
 have key : fitB s.q d = true ∧ d.at_.sm ∧ (isU d = true → seenB s.path d.i = false) ∧ ((∃ u : Nat, u < s.q.g.us.length ∧ phaseS s u = 0 ∧ d = onD u) ∨ (d.k = 3 ∧ r = 2)) ∧ Bt 300000000 d.at_.q := by
  rcases choose_cases hs hr with ⟨u, k1, k2⟩ | ⟨k0, k5, k1, v, k2, j, k3, k4⟩
  ·
   obtain ⟨k3, k4⟩ := open_mem k1
   have hse := open_seen k3 k4 h.p.fit
   have hd : d = onD u := by rw [← hd0]; exact k2
   rw [hd]
   exact ⟨fit_on k3, on_sm _, fun _ => hse, .inl ⟨u, k3, k4, rfl⟩, by rw [onD, zero_q]; exact bt0 _⟩
  ·
   have hd : d = ⟨3, j, can ((v.lo + v.hi) / ((2 : Int) : Rat))⟩ := by rw [← hd0]; exact k4
   rw [hd]
   have hv := bx_all (Q := Bt 128) (s := s) (fun x hx => (hq.r.sl x hx).mono (by decide)) (fun x hx => (hq.r.sh x hx).mono (by decide)) h.p.bt v k2
   have hb := half_b hv.1 hv.2
   have hsz : Sz ((v.lo + v.hi) / ((2 : Int) : Rat)) := hb.mono (by decide)
   exact ⟨fit_in k3, hsz.sm, fun hh => by simp [isU] at hh, .inr ⟨rfl, k5⟩, by simp only [can_q]; exact hb.mono (by decide)⟩
 obtain ⟨q1, q2, q3, q4, q5⟩ := key
 have e1 : extE s.path d = 0 := ext_ok hq.ok h.p.fit h.p.tw (by omega) q1 q3
 have e2 : extE s.path (opD d) = 0 := ext_ok hq.ok h.p.fit h.p.tw (by omega) (by rw [opD_fit]; exact q1) fun hu => q3 (by rw [← opK_u]; exact hu)
 have e3 : kidE s d = 0 := by rw [kidE, if_pos q1, e1]
 refine ⟨q2, q1, e3, ?_, ?_, q4, q5⟩
 ·
  rw [kidA, if_pos e3, extP, if_pos e1]
 ·
  rw [kidB, if_pos e3, extP, if_pos e2]
theorem cmp_total {a b : Rat} : (decide (cmpQ a b ≥ 0) || decide (cmpQ a b ≤ 0)) = true := by
 by_cases h : cmpQ a b ≥ 0
 ·
  rw [decide_eq_true h]; rfl
 ·
  rw [decide_eq_true (show cmpQ a b ≤ 0 by omega)]; simp
theorem sgn_total {a : Rat} : (decide (a.num.sign ≥ 0) || decide (a.num.sign ≤ 0)) = true := by
 by_cases h : a.num.sign ≥ 0
 ·
  rw [decide_eq_true h]; rfl
 ·
  rw [decide_eq_true (show a.num.sign ≤ 0 by omega)]; simp
theorem ho_total {q : Qu} {x pre : List Rat} {d : Dc} (hf : fitB q d = true) (hk : d.k = 1 ∨ d.k = 3) : (hoB q x pre d || hoB q x pre (opD d)) = true := by
 unfold hoB
 rw [opD_fit, hf, Bool.true_and, Bool.true_and]
 rcases hk with hk | hk
 ·
  have e : (opD d).k = 2 := by simp [opD, opK, hk]
  rw [if_neg (by omega), if_neg (by omega), if_pos hk, if_neg (by omega), if_neg (by omega), if_neg (by omega)]
  exact sgn_total
 ·
  have e : (opD d).k = 4 := by simp [opD, opK, hk]
  rw [if_pos hk, if_neg (by omega), if_pos e]
  exact cmp_total
theorem mem_kids {s : Sp} {d : Dc} {c : Bool} {x pre : List Rat} (hf : fitB s.q d = true) (hk : d.k = 1 ∨ d.k = 3) :
  memB s c x pre = (memB ⟨s.q, s.path ++ [d], s.ls⟩ c x pre || memB ⟨s.q, s.path ++ [opD d], s.ls⟩ c x pre) := by
 have h := ho_total (x := x) (pre := pre) hf hk
 simp only [memB, List.all_append, List.all_cons, List.all_nil, Bool.and_true]
 cases c <;> cases s.path.all (hoB s.q x pre) <;> simp_all
structure RawOk' (raw : List Nat) : Prop where
 len : raw.length ≤ 1099511627776
 by_ : ∀ b ∈ raw, b < 256
theorem lx_covers {raw pl : List Nat} {P : List Dc} {ρ : Nat} (hr : RawOk' raw) (hp : RawOk' pl) (hP : P.length ≤ 1099511627776) (hw : ∀ d ∈ P, DcW d) (hρ : ρ < 256) :
  LV Tryz.prog 5 [.a (.d (bysD raw)), .a (.d (dcsD P)), .a (.d (bysD pl)), vl (.int .u8 (ρ : Nat))] (vl (.bool true)) := by
 have hrl := hr.len; have hpl := hp.len
 obtain ⟨b, hb, cl⟩ := lx_large (raw := raw) (P := P) (L := []) (fun m h => by cases h) (by simp) hP hrl
 have cl' : LV Tryz.prog 8 [.a (.d (bysD raw)), .a (.d (dcsD P)), .a (.d (.lit (.slice none 0 0)))] (vl (.bool b)) := cl.wk ⟨vR_ _, vR_ _, WkV.of WkA.nil, trivial⟩
 have hr4 : IntKind.i64.wrap ((ρ : Int).tmod 4) = ((ρ % 4 : Nat) : Int) := by
  have e : (ρ : Int).tmod 4 = ((ρ % 4 : Nat) : Int) := rfl
  rw [e, wr64 (by omega) (by omega)]
 refine LX_run (m := 0) (n0 := 0) mix Tryz.func5 rfl rfl rfl rfl ?_
 conv => whnf
 refine .c (lx_awake) ?_
 conv => whnf
 refine .c (cl') ?_
 conv => whnf
 refine bs (fun h1 => ?_) (fun h1 => ?_)
 ·
  conv => whnf
  exact .q ⟨rfl, rfl⟩
 ·
  conv => whnf
  refine bs (fun h2 => ?_) (fun h2 => ?_)
  ·
   conv => whnf
   exact .q ⟨rfl, rfl⟩
  ·
   conv => whnf
   have hs := hb h1
   have hp40 : pl.length ≤ 40 := by have h := of_decide_eq_false h2; rw [List.length_map] at h; omega
   obtain ⟨s, ⟨hI, _⟩, cs⟩ := lx_scope ⟨by have := hs.raw; omega, hr.by_⟩ hs hw (fun m h => by cases h)
   have cs' := cs.wk (args := [.a (.d (bysD raw)), .a (.d (dcsD P)), .a (.d (.lit (.slice none 0 0)))]) ⟨vR_ _, vR_ _, WkV.of WkA.nil, trivial⟩
   obtain ⟨x, ⟨x1, x2⟩, cx⟩ := lx_inside hI.q.r hI.q.g.n2 (show RawOk pl from ⟨by omega, hp.by_⟩)
   refine .c (cs') ?_
   conv => whnf
   refine .c (cx) ?_
   conv => whnf
   rw [hr4]
   refine .c (lx_chooseN hI.sp) ?_
   conv => whnf
   have hstp := hI.step (r := ((ρ % 4 : Nat) : Int))
   obtain ⟨c, cc⟩ := lx_contains hI.q.r hI.q.g.n1 hI.q.g.n2 x1 x2
   obtain ⟨pre, ⟨p1, p2⟩, cp⟩ := lx_zpre hI.q.g x1 x2
   have hpl13 := hI.pl
   generalize ((ρ % 4 : Nat) : Int) = r at *
   refine bs (fun he => ?_) (fun he => ?_)
   ·
    conv => whnf
    exact .q ⟨rfl, rfl⟩
   ·
    conv => whnf
    have hce : csE s r = 0 := by simpa using he
    obtain ⟨s1, s2, s3, s4, s5, s6, s7⟩ := hstp hce
    have hk : (csD s (onD (gMost (gapS s) (openS s))) r).k = 1 ∨ (csD s (onD (gMost (gapS s) (openS s))) r).k = 3 := by
     rcases s6 with ⟨u, _, _, e⟩ | ⟨e, _⟩
     ·
      left; rw [e]; rfl
     ·
      exact .inr e
    generalize csD s (onD (gMost (gapS s) (openS s))) r = d at *
    have hsa : ∀ y ∈ s.path ++ [d], y.at_.sm := fun y hy => by
     rcases List.mem_append.1 hy with h5 | h5
     ·
      exact hI.p.sm y h5
     ·
      rw [List.mem_singleton.1 h5]; exact s1
    have hsb : ∀ y ∈ s.path ++ [opD d], y.at_.sm := fun y hy => by
     rcases List.mem_append.1 hy with h5 | h5
     ·
      exact hI.p.sm y h5
     ·
      rw [List.mem_singleton.1 h5]; exact s1
    have m0 := lx_member (s := s) hI.q hI.p.sm (by omega) x1 x2 p1 p2 cp cc
    have mA := lx_member (s := ⟨s.q, s.path ++ [d], s.ls⟩) hI.q hsa (by simp; omega) x1 x2 p1 p2 cp cc
    have mB := lx_member (s := ⟨s.q, s.path ++ [opD d], s.ls⟩) hI.q hsb (by simp; omega) x1 x2 p1 p2 cp cc
    have hm := mem_kids (s := s) (c := c) (x := x) (pre := pre) s2 hk
    generalize memB s c x pre = b0 at *
    generalize memB ⟨s.q, s.path ++ [d], s.ls⟩ c x pre = b1 at *
    generalize memB ⟨s.q, s.path ++ [opD d], s.ls⟩ c x pre = b2 at *
    refine .c (lx_kids hI.sp (by omega) s1) ?_
    conv => whnf
    rw [s4, s5, s3]
    repeat' first | (refine bs (fun h => ?_) (fun h => ?_) <;> conv => whnf) | (refine Nc.mk (by kernel_rfl) ?_; conv => whnf) | (refine .c (m0) ?_; conv => whnf) | (refine .c (mA) ?_; conv => whnf) | (refine .c (mB) ?_; conv => whnf)
    all_goals first
     | exact .q ⟨rfl, rfl⟩
     | (exfalso; simp_all; done)
end Go.Proofs.YtikglhmabidjoaaGreatDoor.Lf
