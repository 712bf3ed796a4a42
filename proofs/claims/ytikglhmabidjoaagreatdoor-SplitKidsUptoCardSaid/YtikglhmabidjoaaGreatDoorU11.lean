/- Texts LiL LiR of this proof, in this order. -/
import Derived.Test.YtikglhmabidjoaaGreatDoorU09
set_option linter.unusedVariables false
set_option linter.unusedSimpArgs false
set_option maxRecDepth 100000
set_option maxHeartbeats 4000000
namespace Go.Proofs.YtikglhmabidjoaaGreatDoor.Lf
open Go.RowKit Nt
structure PthI (q : Qu) (P : List Dc) : Prop where
 fit : ∀ d ∈ P, fitB q d = true
 sm : ∀ d ∈ P, d.at_.sm
 bt : ∀ d ∈ P, Bt 128 d.at_.q
 tw : twB P = false
theorem PthI.snoc {q : Qu} {P : List Dc} {d : Dc} (h : PthI q P) (hf : fitB q d = true) (hs : d.at_.sm) (hb : Bt 128 d.at_.q) (ht : twB (P ++ [d]) = false) : PthI q (P ++ [d]) := by
 refine ⟨fun x hx => ?_, fun x hx => ?_, fun x hx => ?_, ht⟩
 ·
  rcases List.mem_append.1 hx with h5 | h5
  ·
   exact h.fit x h5
  ·
   rw [List.mem_singleton.1 h5]; exact hf
 ·
  rcases List.mem_append.1 hx with h5 | h5
  ·
   exact h.sm x h5
  ·
   rw [List.mem_singleton.1 h5]; exact hs
 ·
  rcases List.mem_append.1 hx with h5 | h5
  ·
   exact h.bt x h5
  ·
   rw [List.mem_singleton.1 h5]; exact hb
theorem ext_tw {P : List Dc} {d : Dc} (h : extE P d = 0) : twB (P ++ [d]) = false ∧ extP P d = P ++ [d] := by
 refine ⟨?_, by rw [extP, if_pos h]⟩
 unfold extE at h
 repeat' split at h
 all_goals first | omega | simp_all
structure ScI (s : Sp) : Prop where
 q : QuB s.q
 p : PthI s.q s.path
 pl : s.path.length ≤ 13
 ll : s.ls.length ≤ 40
 ln : ∀ m ∈ s.ls, m.v.sm
 lb : ∀ m ∈ s.ls, Bt 300000000 m.v.q
theorem ScI.sp {s : Sp} (h : ScI s) : SpOk s :=
 ⟨h.q.ok, tL_ h.pl (by decide), h.p.sm, tL_ h.ll (by decide), h.ln, fun x hx => (h.q.r.sl x hx).mono (by decide), fun x hx => (h.q.r.sh x hx).mono (by decide), fun d hd => (h.p.bt d hd).mono (by decide), h.lb⟩
theorem lx_scope {raw : List Nat} {P : List Dc} {L : List Lm} (h : RawOk raw) (hs : SmlA raw P L) (hw : ∀ d ∈ P, DcW d) (hlw : ∀ m ∈ L, LmW m) :
  ∃ s : Sp, (ScI s ∧ ∃ (J : Nat) (l0 : List Lm), LmsOk J l0 ∧ s.ls = l0 ++ L) ∧ LV Tryz.prog 9 [.a (.d (bysD raw)), .a (.d (dcsD P)), .a (.d (lmsD L))] (.agg s.A) := by
 suffices hh : LX Tryz.prog 9 [.a (.d (bysD raw)), .a (.d (dcsD P)), .a (.d (lmsD L))] [] fun v H => ∃ s : Sp, (ScI s ∧ ∃ (J : Nat) (l0 : List Lm), LmsOk J l0 ∧ s.ls = l0 ++ L) ∧ v = .agg s.A ∧ H = [] by
  obtain ⟨v, H', ⟨s, h1, rfl, rfl⟩, hc⟩ := hh
  exact ⟨s, h1, _, _, ⟨rfl, rfl⟩, hc⟩
 have hPl := hs.len
 have hLl := hs.ll
 obtain ⟨q, P0, ls, ⟨hq, hP0, hl0, o1, o2⟩, c⟩ := lx_derived h
 have hI0 : PthI q P0 := ⟨hP0.fit, hP0.sm, fun d hd => (hP0.bt d hd).mono (by decide), hP0.tw⟩
 refine LX_run (m := 0) (n0 := 0) mix Tryz.func9 rfl rfl rfl rfl ?_
 conv => whnf
 refine .c (c) ?_
 conv => whnf
 refine .mk (P0.map Dc.D) rfl rfl (by simp; omega) ?_
 conv => whnf
 refine .mk (Nat × List Dc) (fun (j, Q) => ⟨[(21, vl (.int .i64 (j : Nat))), (20, vl (.int .i64 (P.map Dc.D).length)), (19, .a (.d (dcsD P))), (7, .a (.ptr 1 0)), (6, .a (.ptr 0 0)), (2, .a (.d (lmsD L)))], [(0, .box 43 zSp), (1, .box 43 (Sp.A ⟨q, Q, ls⟩))], 3⟩)
  (fun b => b.1 ≤ P.length ∧ PthI q b.2 ∧ b.2.length ≤ 3 + b.1) (fun b => P.length - b.1) (0, P0) (Wk.go (h2 := ⟨⟨_, rfl, wke_refl _, rfl⟩, ⟨_, rfl, ⟨_, rfl, aR_ _, aR_ _, aR_ _, aR_ _, aR_ _, aR_ _, aR_ _, aR_ _, aR_ _, aR_ _, WkA.own, aR_ _, trivial⟩, rfl⟩, trivial⟩)) ⟨zL_ _, hI0, by simp only; omega⟩ fun ⟨j, Q⟩ hb => ?_
 obtain ⟨hj, hQ, hQl⟩ := hb
 simp only at hj hQ hQl
 conv => whnf
 refine bs (fun h1 => ?_) (fun h1 => ?_)
 ·
  conv => whnf
  have h1' : j < P.length := by simpa using h1
  obtain ⟨d, hd⟩ := at_some h1'
  have hdm := mG_ hd
  obtain ⟨d4, d5⟩ := hs.dc d hdm
  obtain ⟨d6, d7⟩ := hw d hdm
  have hdb := bt_raw d4 d5 d6 d7
  have hsm : d.at_.sm := ⟨by omega, by omega⟩
  refine .mk (j) (d.D) (rfl) (at_map hd) ?_
  conv => whnf
  conv => whnf
  refine .c (lx_zFits hq.ok hsm) ?_
  conv => whnf
  refine bs (fun h2 => ?_) (fun h2 => ?_)
  ·
   conv => whnf
   refine .c (lx_zextend (l := Q) (by omega) hQ.sm hsm) ?_
   conv => whnf
   refine bs (fun h3 => ?_) (fun h3 => ?_)
   ·
    conv => whnf
    have h3' : extE Q d = 0 := by simpa using h3
    obtain ⟨t1, t2⟩ := ext_tw h3'
    rw [t2]
    exact ⟨(j + 1, Q ++ [d]), Wk.go, ⟨h1', hQ.snoc h2 hsm hdb t1, by simp; omega⟩, by simp only; omega⟩
   ·
    conv => whnf
    exact ⟨(j + 1, Q), Wk.go, ⟨h1', hQ, by simp only; omega⟩, by simp only; omega⟩
  ·
   conv => whnf
   exact ⟨(j + 1, Q), Wk.go, ⟨h1', hQ, by simp only; omega⟩, by simp only; omega⟩
 ·
  conv => whnf
  refine .mk (ls.map Lm.D) rfl rfl (by simp; omega) ?_
  conv => whnf
  refine .mk ((ls ++ L).map Lm.D) rfl (by rw [List.map_append]) (by simp; omega) ?_
  conv => whnf
  have hsm : ∀ m ∈ ls ++ L, m.v.sm ∧ Bt 300000000 m.v.q := fun m hm => by
   rcases List.mem_append.1 hm with h5 | h5
   ·
    obtain ⟨_, _, ⟨x, e, hx⟩, _⟩ := o1 m h5
    have hb := beta_le m.u.toNat
    rw [e, can_q]
    exact ⟨Sz.sm (hx.mono (by omega)), hx.mono (by omega)⟩
   ·
    obtain ⟨w1, w2, _⟩ := hlw m h5
    obtain ⟨w3, w4⟩ := hs.lm m h5
    exact ⟨⟨by omega, by omega⟩, (bt_raw w3 w4 w1 w2).mono (by decide)⟩
  exact .s ⟨⟨q, Q, ls ++ L⟩, ⟨⟨hq, hQ, by simp only; omega, by simp; omega, fun m hm => (hsm m hm).1, fun m hm => (hsm m hm).2⟩, q.g.us.length, ls, o1, rfl⟩, rfl, rfl⟩
theorem eq_same (x : Rw) : x.eq x = true := Rw.eq_iff.2 rfl
theorem lx_same_self {x : Rw} : LV Tryz.prog 24 [.agg x.A, .agg x.A] (vl (.bool true)) := by
 have h := lx_zsame2 (x := x) (y := x)
 rwa [eq_same] at h
theorem lx_same_dec {d : Dc} : LV Tryz.prog 42 [.agg d.A, .agg d.A] (vl (.bool true)) := by
 refine LX_run (m := 0) (n0 := 0) mix Tryz.func42 rfl rfl rfl rfl ?_
 conv => whnf
 refine bT (by simp) ?_
 conv => whnf
 refine bT (by simp) ?_
 conv => whnf
 refine .c (lx_same_self (x := d.at_)) ?_
 conv => whnf
 exact .q ⟨rfl, rfl⟩
theorem lx_same_path {P : List Dc} (hl : P.length ≤ 1000) : LV Tryz.prog 16 [.a (.d (dcsD P)), .a (.d (dcsD P))] (vl (.bool true)) := by
 refine LX_run (m := 0) (n0 := 0) mix Tryz.func16 rfl rfl rfl rfl ?_
 conv => whnf
 refine bF (by simp) ?_
 conv => whnf
 refine .mk Nat (fun i => ⟨[(5, vl (.int .i64 (i : Nat))), (1, .a (.d (dcsD P))), (0, .a (.d (dcsD P)))], [], 0⟩) (fun i => i ≤ P.length) (fun i => P.length - i) 0 Wk.go (zL_ _) fun i hi => ?_
 conv => whnf
 refine bs (fun h1 => ?_) (fun h1 => ?_)
 ·
  conv => whnf
  have h1' : i < P.length := by simpa using h1
  obtain ⟨d, hd⟩ := at_some h1'
  refine .mk (i) (d.D) (rfl) (at_map hd) ?_
  conv => whnf
  conv => whnf
  refine .mk (i) (d.D) (rfl) (at_map hd) ?_
  conv => whnf
  conv => whnf
  refine .c (lx_same_dec (d := d)) ?_
  conv => whnf
  refine .mk (by kernel_rfl) ?_
  conv => whnf
  exact ⟨i + 1, Wk.go, h1', by omega⟩
 ·
  conv => whnf
  exact .q ⟨rfl, rfl⟩
theorem lx_same_mults {l : List Mu} (hl : l.length ≤ 1000) : LV Tryz.prog 43 [.a (.d (musD l)), .a (.d (musD l))] (vl (.bool true)) := by
 refine LX_run (m := 0) (n0 := 0) mix Tryz.func43 rfl rfl rfl rfl ?_
 conv => whnf
 refine bF (by simp) ?_
 conv => whnf
 refine .mk Nat (fun i => ⟨[(5, vl (.int .i64 (i : Nat))), (1, .a (.d (musD l))), (0, .a (.d (musD l)))], [], 0⟩) (fun i => i ≤ l.length) (fun i => l.length - i) 0 Wk.go (zL_ _) fun i hi => ?_
 conv => whnf
 refine bs (fun h1 => ?_) (fun h1 => ?_)
 ·
  conv => whnf
  have h1' : i < l.length := by simpa using h1
  obtain ⟨m, hm⟩ := at_some h1'
  have sc := lx_same_self (x := can m.c)
  refine .mk (i) (m.D) (rfl) (at_map hm) ?_
  conv => whnf
  conv => whnf
  refine .mk (i) (m.D) (rfl) (at_map hm) ?_
  conv => whnf
  conv => whnf
  refine .mk (by kernel_rfl) ?_
  conv => whnf
  refine bF (by simp) ?_
  conv => whnf
  refine .mk (i) (m.D) (rfl) (at_map hm) ?_
  conv => whnf
  conv => whnf
  refine .mk (i) (m.D) (rfl) (at_map hm) ?_
  conv => whnf
  conv => whnf
  refine .c (sc) ?_
  conv => whnf
  refine .mk (by kernel_rfl) ?_
  conv => whnf
  exact ⟨i + 1, Wk.go, h1', by omega⟩
 ·
  conv => whnf
  exact .q ⟨rfl, rfl⟩
theorem lx_same_lems {J : Nat} {l : List Lm} (hm : LmsOk J l) (hl : l.length ≤ 1000) : LV Tryz.prog 17 [.a (.d (lmsD l)), .a (.d (lmsD l))] (vl (.bool true)) := by
 refine LX_run (m := 0) (n0 := 0) mix Tryz.func17 rfl rfl rfl rfl ?_
 conv => whnf
 refine bF (by simp) ?_
 conv => whnf
 refine .mk Nat (fun i => ⟨[(5, vl (.int .i64 (i : Nat))), (1, .a (.d (lmsD l))), (0, .a (.d (lmsD l)))], [], 0⟩) (fun i => i ≤ l.length) (fun i => l.length - i) 0 Wk.go (zL_ _) fun i hi => ?_
 conv => whnf
 refine bs (fun h1 => ?_) (fun h1 => ?_)
 ·
  conv => whnf
  have h1' : i < l.length := by simpa using h1
  obtain ⟨m, hml⟩ := at_some h1'
  obtain ⟨_, _, _, mus, e, _, hlen⟩ := hm m (mG_ hml)
  obtain ⟨mu, up, mv, mp⟩ := m
  simp only at e
  subst e
  have hix := at_map (f := Lm.D) hml
  have sc := lx_same_self (x := mv)
  have sm := lx_same_mults hlen
  refine .mk (i) ((Lm.D ⟨mu, up, mv, mus.map Mu.D⟩)) (rfl) (hix) ?_
  conv => whnf
  conv => whnf
  refine .mk (i) ((Lm.D ⟨mu, up, mv, mus.map Mu.D⟩)) (rfl) (hix) ?_
  conv => whnf
  conv => whnf
  refine bF (by simp) ?_
  conv => whnf
  cases up
  all_goals repeat' first | (refine bs (fun h => ?_) (fun h => ?_) <;> conv => whnf) | (refine Nc.mk (by kernel_rfl) ?_; conv => whnf) | (refine .c (sc) ?_; conv => whnf) | (refine .c (sm) ?_; conv => whnf) | (refine .mk i (Lm.D ⟨mu, _, mv, mus.map Mu.D⟩) rfl hix ?_; conv => whnf)
  all_goals exact ⟨i + 1, Wk.go, h1', by omega⟩
 ·
  conv => whnf
  exact .q ⟨rfl, rfl⟩
theorem lx_kidslaw {raw : List Nat} {P : List Dc} {d : Dc} (hr : RawOk' raw) (hP : P.length ≤ 1048576) (hw : ∀ d ∈ P, DcW d) (hd : DcW d) :
  LV Tryz.prog 4 [.a (.d (bysD raw)), .a (.d (dcsD P)), .agg d.A] (vl (.bool true)) := by
 have hrl := hr.len
 obtain ⟨b, hb, cl⟩ := lx_large (raw := raw) (P := P ++ [d]) (L := []) (fun m h => by cases h) (by simp) (by simp; omega) hrl
 have cl' : LV Tryz.prog 8 [.a (.d (bysD raw)), .a (.d (dcsD (P ++ [d]))), .a (.d (.lit (.slice none 0 0)))] (vl (.bool b)) := cl.wk ⟨vR_ _, vR_ _, WkV.of WkA.nil, trivial⟩
 refine LX_run (m := 0) (n0 := 0) mix Tryz.func4 rfl rfl rfl rfl ?_
 conv => whnf
 refine .c (lx_awake) ?_
 conv => whnf
 refine .mk rfl rfl ?_
 conv => whnf
 refine .mk ((P ++ [d]).map Dc.D) rfl (by rw [List.map_append]; rfl) (by simp; omega) ?_
 conv => whnf
 refine .c (cl') ?_
 conv => whnf
 refine bs (fun h1 => ?_) (fun h1 => ?_)
 ·
  conv => whnf
  refine .mk (by kernel_rfl) ?_
  conv => whnf
  exact .q ⟨rfl, rfl⟩
 ·
  conv => whnf
  refine .mk (by kernel_rfl) ?_
  conv => whnf
  have hs0 := hb h1
  have hlen := hs0.len
  have hs : SmlA raw P [] := ⟨hs0.raw, by simp at hlen; omega, fun y hy => hs0.dc y (by simp [hy]), hs0.ll, hs0.lm⟩
  obtain ⟨d4, d5⟩ := hs0.dc d (by simp)
  have hsm : d.at_.sm := ⟨by omega, by omega⟩
  obtain ⟨s, ⟨hI, J, l0, hl1, hl2⟩, cs⟩ := lx_scope ⟨by have := hs.raw; omega, hr.by_⟩ hs hw (fun m h => by cases h)
  rw [List.append_nil] at hl2
  have cs' := cs.wk (args := [.a (.d (bysD raw)), .a (.d (dcsD P)), .a (.d (.lit (.slice none 0 0)))]) ⟨vR_ _, vR_ _, WkV.of WkA.nil, trivial⟩
  have hpl := hI.pl
  have hll := hI.ll
  have hel : ∀ y : Dc, (extP s.path y).length ≤ 1000 := fun y => by
   unfold extP; split
   ·
    simp; omega
   ·
    simp
  have c1 := lx_kids hI.sp (by omega) hsm
  have c2 := lx_zkids hI.sp (by omega) hsm
  have sl := lx_same_lems (J := J) (l := s.ls) (by rw [hl2]; exact hl1) (by omega)
  refine .c (cs') ?_
  conv => whnf
  by_cases he : kidE s d = 0
  ·
   have eA : kidA s d = ⟨s.q, extP s.path d, s.ls⟩ := by rw [kidA, if_pos he]
   have eB : kidB s d = ⟨s.q, extP s.path (opD d), s.ls⟩ := by rw [kidB, if_pos he]
   rw [eA, eB, he] at c1 c2
   refine .c (c1) ?_
   conv => whnf
   refine .c (c2) ?_
   conv => whnf
   refine .c (lx_same_path (hel d)) ?_
   conv => whnf
   refine .c (lx_same_path (hel (opD d))) ?_
   conv => whnf
   refine .c (sl) ?_
   conv => whnf
   refine .c (sl) ?_
   conv => whnf
   refine .c (lx_zquvalid hI.q.ok) ?_
   conv => whnf
   refine .c (lx_zquvalid hI.q.ok) ?_
   conv => whnf
   exact .q ⟨rfl, rfl⟩
  ·
   have eA : kidA s d = sp0 := by rw [kidA, if_neg he]
   have eB : kidB s d = sp0 := by rw [kidB, if_neg he]
   rw [eA, eB] at c1 c2
   refine .c (c1) ?_
   conv => whnf
   refine .c (c2) ?_
   conv => whnf
   refine bF (by simp) ?_
   conv => whnf
   refine .c (lx_same_path (P := sp0.path) (by decide)) ?_
   conv => whnf
   refine .c (lx_same_path (P := sp0.path) (by decide)) ?_
   conv => whnf
   refine bT (by simpa using he) ?_
   conv => whnf
   exact .q ⟨rfl, rfl⟩
end Go.Proofs.YtikglhmabidjoaaGreatDoor.Lf
