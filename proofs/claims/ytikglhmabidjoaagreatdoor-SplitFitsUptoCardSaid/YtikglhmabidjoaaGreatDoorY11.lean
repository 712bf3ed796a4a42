/- Texts LiL LiM LiN LiO LiP of this proof, in this order. -/
import Derived.Test.YtikglhmabidjoaaGreatDoorY09
set_option linter.unusedVariables false
set_option linter.unusedSimpArgs false
set_option maxRecDepth 100000
set_option maxHeartbeats 4000000
namespace Go.Proofs.YtikglhmabidjoaaGreatDoor.Lf
open Go.RowKit Nt
structure PthI (q : Qu) (P : List Dc) : Prop where
 fit : ∀ d ∈ P, fitB q d = true
 sm : ∀ d ∈ P, d.at_.sm
 bt : ∀ d ∈ P, Bt 128 d.at_.q
 tw : twB P = false
theorem PthI.snoc {q : Qu} {P : List Dc} {d : Dc} (h : PthI q P) (hf : fitB q d = true) (hs : d.at_.sm) (hb : Bt 128 d.at_.q) (ht : twB (P ++ [d]) = false) : PthI q (P ++ [d]) := by
 refine ⟨fun x hx => ?_, fun x hx => ?_, fun x hx => ?_, ht⟩
 ·
  rcases List.mem_append.1 hx with h5 | h5
  ·
   exact h.fit x h5
  ·
   rw [List.mem_singleton.1 h5]; exact hf
 ·
  rcases List.mem_append.1 hx with h5 | h5
  ·
   exact h.sm x h5
  ·
   rw [List.mem_singleton.1 h5]; exact hs
 ·
  rcases List.mem_append.1 hx with h5 | h5
  ·
   exact h.bt x h5
  ·
   rw [List.mem_singleton.1 h5]; exact hb
theorem ext_tw {P : List Dc} {d : Dc} (h : extE P d = 0) : twB (P ++ [d]) = false ∧ extP P d = P ++ [d] := by
 refine ⟨?_, by rw [extP, if_pos h]⟩
 unfold extE at h
 repeat' split at h
 all_goals first | omega | simp_all
structure ScI (s : Sp) : Prop where
 q : QuB s.q
 p : PthI s.q s.path
 pl : s.path.length ≤ 13
 ll : s.ls.length ≤ 40
 ln : ∀ m ∈ s.ls, m.v.sm
 lb : ∀ m ∈ s.ls, Bt 300000000 m.v.q
theorem ScI.sp {s : Sp} (h : ScI s) : SpOk s :=
 ⟨h.q.ok, tL_ h.pl (by decide), h.p.sm, tL_ h.ll (by decide), h.ln, fun x hx => (h.q.r.sl x hx).mono (by decide), fun x hx => (h.q.r.sh x hx).mono (by decide), fun d hd => (h.p.bt d hd).mono (by decide), h.lb⟩
theorem lx_scope {raw : List Nat} {P : List Dc} {L : List Lm} (h : RawOk raw) (hs : SmlA raw P L) (hw : ∀ d ∈ P, DcW d) (hlw : ∀ m ∈ L, LmW m) :
  ∃ s : Sp, (ScI s ∧ ∃ (J : Nat) (l0 : List Lm), LmsOk J l0 ∧ s.ls = l0 ++ L) ∧ LV Tryz.prog 9 [.a (.d (bysD raw)), .a (.d (dcsD P)), .a (.d (lmsD L))] (.agg s.A) := by
 suffices hh : LX Tryz.prog 9 [.a (.d (bysD raw)), .a (.d (dcsD P)), .a (.d (lmsD L))] [] fun v H => ∃ s : Sp, (ScI s ∧ ∃ (J : Nat) (l0 : List Lm), LmsOk J l0 ∧ s.ls = l0 ++ L) ∧ v = .agg s.A ∧ H = [] by
  obtain ⟨v, H', ⟨s, h1, rfl, rfl⟩, hc⟩ := hh
  exact ⟨s, h1, _, _, ⟨rfl, rfl⟩, hc⟩
 have hPl := hs.len
 have hLl := hs.ll
 obtain ⟨q, P0, ls, ⟨hq, hP0, hl0, o1, o2⟩, c⟩ := lx_derived h
 have hI0 : PthI q P0 := ⟨hP0.fit, hP0.sm, fun d hd => (hP0.bt d hd).mono (by decide), hP0.tw⟩
 refine LX_run (m := 0) (n0 := 0) mix Tryz.func9 rfl rfl rfl rfl ?_
 conv => whnf
 refine .c (c) ?_
 conv => whnf
 refine .mk (P0.map Dc.D) rfl rfl (by simp; omega) ?_
 conv => whnf
 refine .mk (Nat × List Dc) (fun (j, Q) => ⟨[(21, vl (.int .i64 (j : Nat))), (20, vl (.int .i64 (P.map Dc.D).length)), (19, .a (.d (dcsD P))), (7, .a (.ptr 1 0)), (6, .a (.ptr 0 0)), (2, .a (.d (lmsD L)))], [(0, .box 43 zSp), (1, .box 43 (Sp.A ⟨q, Q, ls⟩))], 3⟩)
  (fun b => b.1 ≤ P.length ∧ PthI q b.2 ∧ b.2.length ≤ 3 + b.1) (fun b => P.length - b.1) (0, P0) (Wk.go (h2 := ⟨⟨_, rfl, wke_refl _, rfl⟩, ⟨_, rfl, ⟨_, rfl, aR_ _, aR_ _, aR_ _, aR_ _, aR_ _, aR_ _, aR_ _, aR_ _, aR_ _, aR_ _, WkA.own, aR_ _, trivial⟩, rfl⟩, trivial⟩)) ⟨zL_ _, hI0, by simp only; omega⟩ fun ⟨j, Q⟩ hb => ?_
 obtain ⟨hj, hQ, hQl⟩ := hb
 simp only at hj hQ hQl
 conv => whnf
 refine bs (fun h1 => ?_) (fun h1 => ?_)
 ·
  conv => whnf
  have h1' : j < P.length := by simpa using h1
  obtain ⟨d, hd⟩ := at_some h1'
  have hdm := mG_ hd
  obtain ⟨d4, d5⟩ := hs.dc d hdm
  obtain ⟨d6, d7⟩ := hw d hdm
  have hdb := bt_raw d4 d5 d6 d7
  have hsm : d.at_.sm := ⟨by omega, by omega⟩
  refine .mk (j) (d.D) (rfl) (at_map hd) ?_
  conv => whnf
  conv => whnf
  refine .c (lx_zFits hq.ok hsm) ?_
  conv => whnf
  refine bs (fun h2 => ?_) (fun h2 => ?_)
  ·
   conv => whnf
   refine .c (lx_zextend (l := Q) (by omega) hQ.sm hsm) ?_
   conv => whnf
   refine bs (fun h3 => ?_) (fun h3 => ?_)
   ·
    conv => whnf
    have h3' : extE Q d = 0 := by simpa using h3
    obtain ⟨t1, t2⟩ := ext_tw h3'
    rw [t2]
    exact ⟨(j + 1, Q ++ [d]), Wk.go, ⟨h1', hQ.snoc h2 hsm hdb t1, by simp; omega⟩, by simp only; omega⟩
   ·
    conv => whnf
    exact ⟨(j + 1, Q), Wk.go, ⟨h1', hQ, by simp only; omega⟩, by simp only; omega⟩
  ·
   conv => whnf
   exact ⟨(j + 1, Q), Wk.go, ⟨h1', hQ, by simp only; omega⟩, by simp only; omega⟩
 ·
  conv => whnf
  refine .mk (ls.map Lm.D) rfl rfl (by simp; omega) ?_
  conv => whnf
  refine .mk ((ls ++ L).map Lm.D) rfl (by rw [List.map_append]) (by simp; omega) ?_
  conv => whnf
  have hsm : ∀ m ∈ ls ++ L, m.v.sm ∧ Bt 300000000 m.v.q := fun m hm => by
   rcases List.mem_append.1 hm with h5 | h5
   ·
    obtain ⟨_, _, ⟨x, e, hx⟩, _⟩ := o1 m h5
    have hb := beta_le m.u.toNat
    rw [e, can_q]
    exact ⟨Sz.sm (hx.mono (by omega)), hx.mono (by omega)⟩
   ·
    obtain ⟨w1, w2, _⟩ := hlw m h5
    obtain ⟨w3, w4⟩ := hs.lm m h5
    exact ⟨⟨by omega, by omega⟩, (bt_raw w3 w4 w1 w2).mono (by decide)⟩
  exact .s ⟨⟨q, Q, ls ++ L⟩, ⟨⟨hq, hQ, by simp only; omega, by simp; omega, fun m hm => (hsm m hm).1, fun m hm => (hsm m hm).2⟩, q.g.us.length, ls, o1, rfl⟩, rfl, rfl⟩
def vB : Nat → Nat
 | 0 => 50
 | j + 1 => 7 * vB j + 60
theorem ScI.step {s : Sp} {r : Int} (h : ScI s) (hr : csE s r = 0) :
  (csD s (onD (gMost (gapS s) (openS s))) r).at_.sm ∧ fitB s.q (csD s (onD (gMost (gapS s) (openS s))) r) = true ∧ kidE s (csD s (onD (gMost (gapS s) (openS s))) r) = 0 ∧ kidA s (csD s (onD (gMost (gapS s) (openS s))) r) = ⟨s.q, s.path ++ [csD s (onD (gMost (gapS s) (openS s))) r], s.ls⟩ ∧ kidB s (csD s (onD (gMost (gapS s) (openS s))) r) = ⟨s.q, s.path ++ [opD (csD s (onD (gMost (gapS s) (openS s))) r)], s.ls⟩ ∧
   ((∃ u : Nat, u < s.q.g.us.length ∧ phaseS s u = 0 ∧ csD s (onD (gMost (gapS s) (openS s))) r = onD u) ∨ ((csD s (onD (gMost (gapS s) (openS s))) r).k = 3 ∧ r = 2)) ∧ Bt 300000000 (csD s (onD (gMost (gapS s) (openS s))) r).at_.q := by
 have hs := h.sp
 have hq := h.q
 have hu1 := hq.g.u1
 have hle := h.pl
 generalize hd0 : csD s (onD (gMost (gapS s) (openS s))) r = d at *
 have key : fitB s.q d = true ∧ d.at_.sm ∧ (isU d = true → seenB s.path d.i = false) ∧ ((∃ u : Nat, u < s.q.g.us.length ∧ phaseS s u = 0 ∧ d = onD u) ∨ (d.k = 3 ∧ r = 2)) ∧ Bt 300000000 d.at_.q := by
  rcases choose_cases hs hr with ⟨u, k1, k2⟩ | ⟨k0, k5, k1, v, k2, j, k3, k4⟩
  ·
   obtain ⟨k3, k4⟩ := open_mem k1
   have hse := open_seen k3 k4 h.p.fit
   have hd : d = onD u := by rw [← hd0]; exact k2
   rw [hd]
   exact ⟨fit_on k3, on_sm _, fun _ => hse, .inl ⟨u, k3, k4, rfl⟩, by rw [onD, zero_q]; exact bt0 _⟩
  ·
   have hd : d = ⟨3, j, can ((v.lo + v.hi) / ((2 : Int) : Rat))⟩ := by rw [← hd0]; exact k4
   rw [hd]
   have hv := bx_all (Q := Bt 128) (s := s) (fun x hx => (hq.r.sl x hx).mono (by decide)) (fun x hx => (hq.r.sh x hx).mono (by decide)) h.p.bt v k2
   have hb := half_b hv.1 hv.2
   have hsz : Sz ((v.lo + v.hi) / ((2 : Int) : Rat)) := hb.mono (by decide)
   exact ⟨fit_in k3, hsz.sm, fun hh => by simp [isU] at hh, .inr ⟨rfl, k5⟩, by simp only [can_q]; exact hb.mono (by decide)⟩
 obtain ⟨q1, q2, q3, q4, q5⟩ := key
 have e1 : extE s.path d = 0 := ext_ok hq.ok h.p.fit h.p.tw (by omega) q1 q3
 have e2 : extE s.path (opD d) = 0 := ext_ok hq.ok h.p.fit h.p.tw (by omega) (by rw [opD_fit]; exact q1) fun hu => q3 (by rw [← opK_u]; exact hu)
 have e3 : kidE s d = 0 := by rw [kidE, if_pos q1, e1]
 refine ⟨q2, q1, e3, ?_, ?_, q4, q5⟩
 ·
  rw [kidA, if_pos e3, extP, if_pos e1]
 ·
  rw [kidB, if_pos e3, extP, if_pos e2]
structure RawOk' (raw : List Nat) : Prop where
 len : raw.length ≤ 1099511627776
 by_ : ∀ b ∈ raw, b < 256
theorem lx_zopen {s : Sp} (hs : SpOk s) : LV Tryz.prog 11 [.agg s.A] (.a (.d (natsD (openS s)))) := by
 have hu1 := hs.q.g.u1
 have hol := fun j => openTo_len s j
 refine LX_run (m := 0) (n0 := 0) mix Tryz.func11 rfl rfl rfl rfl ?_
 conv => whnf
 refine .c (lx_zquvalid hs.q) ?_
 conv => whnf
 refine .mk Nat (fun j => ⟨[(4, vl (.int .i64 (j : Nat))), (3, .a (.own 1 1 ((openTo s j).map fun j => [D.lit (encN j)]))), (1, .a (.ptr 0 0))], [(0, .box 43 s.A), (1, .arr 3 1 ((openTo s j).map fun j => [D.lit (encN j)]).length)], 2⟩) (fun j => j ≤ s.q.g.us.length) (fun j => s.q.g.us.length - j) 0 (Wk.trans (Wk.own 3 1 3 1 rfl rfl (zL_ _)) Wk.go) (zL_ _) fun j hj => ?_
 have hoj := hol j
 have hsu := openTo_succ s j
 conv => whnf
 refine bs (fun h1 => ?_) (fun h1 => ?_)
 ·
  conv => whnf
  have h1' : j < s.q.g.us.length := by simpa using h1
  refine .c (lx_zphase hs) ?_
  conv => whnf
  refine bs (fun h2 => ?_) (fun h2 => ?_)
  ·
   conv => whnf
   have e : openB s j = true := h2
   rw [if_pos e] at hsu
   refine .mk ((openTo s (j + 1)).map fun j => [D.lit (encN j)]) rfl (by rw [hsu, List.map_append]; rfl) (by rw [List.length_map, hsu]; simp; omega) ?_
   conv => whnf
   exact ⟨j + 1, Wk.go, h1', by omega⟩
  ·
   conv => whnf
   have e : ¬ openB s j = true := by show ¬ (phaseS s j == 0) = true; rw [h2]; exact Bool.false_ne_true
   rw [if_neg e] at hsu
   exact ⟨j + 1, by rw [hsu]; exact Wk.go, h1', by omega⟩
 ·
  conv => whnf
  have e : j = s.q.g.us.length := by simp at h1; omega
  subst e
  exact .s ⟨rfl, rfl⟩
theorem SpOk.snoc {s : Sp} {d : Dc} (h : SpOk s) (hl : s.path.length ≤ 1000) (hs : d.at_.sm) (hb : Bt 300000000 d.at_.q) : SpOk ⟨s.q, s.path ++ [d], s.ls⟩ :=
 ⟨h.q, by simp; omega, fun y hy => by
   rcases List.mem_append.1 hy with h5 | h5
   ·
    exact h.pn y h5
   ·
    rw [List.mem_singleton.1 h5]; exact hs, h.ll, h.ln, h.rlo, h.rhi, fun y hy => by
   rcases List.mem_append.1 hy with h5 | h5
   ·
    exact h.pb y h5
   ·
    rw [List.mem_singleton.1 h5]; exact hb, h.lb⟩
theorem decB_snoc {s : Sp} {d : Dc} {k u : Int} : decB ⟨s.q, s.path ++ [d], s.ls⟩ k u = (decB s k u || isD s.q k u d) := by
 simp [decB, List.any_append]
theorem phase_kids {s : Sp} {u : Nat} (hu : u < s.q.g.us.length) (h : phaseS s u = 0) : phaseS ⟨s.q, s.path ++ [onD u], s.ls⟩ u = 1 ∧ phaseS ⟨s.q, s.path ++ [opD (onD u)], s.ls⟩ u = 2 := by
 have f1 := fit_on (q := s.q) hu
 have f2 : fitB s.q (opD (onD u)) = true := by rw [opD_fit]; exact f1
 have hr : (decide ((u : Int) < 0) || decide ((u : Int) ≥ (s.q.g.us.length : Int))) = false := by simp; omega
 unfold phaseS at h ⊢
 rw [if_neg (by rw [hr]; exact Bool.false_ne_true)] at h
 have i1 : isD s.q 1 u (onD u) = true := by simp [isD, f1]; simp [onD]
 have i2 : isD s.q 1 u (opD (onD u)) = false := by simp [isD, opD, opK, onD]
 have i3 : isD s.q 2 u (opD (onD u)) = true := by simp [isD, f2]; simp [onD, opD, opK]
 have ho : onS s u (bestS s u).1 = false := by
  cases hh : onS s u (bestS s u).1 with
  | false => rfl
  | true => rw [if_pos hh] at h; cases h
 refine ⟨?_, ?_⟩
 ·
  rw [if_neg (by simp only; rw [hr]; exact Bool.false_ne_true), if_pos]
  unfold onS
  rw [decB_snoc, i1, Bool.or_true, Bool.true_or]
 ·
  rw [if_neg (by simp only; rw [hr]; exact Bool.false_ne_true), if_neg, if_pos]
  ·
   unfold offS
   rw [decB_snoc, i3, Bool.or_true, Bool.true_or]
  ·
   have e : onS ⟨s.q, s.path ++ [opD (onD u)], s.ls⟩ u (bestS ⟨s.q, s.path ++ [opD (onD u)], s.ls⟩ u).1 = onS s u (bestS s u).1 := by
    unfold onS
    rw [decB_snoc, i2, Bool.or_false]; rfl
   rw [e, ho]; exact Bool.false_ne_true
theorem lx_fitlaw {raw : List Nat} {P : List Dc} {L : List Lm} {ρ : Nat} (hr : RawOk' raw) (hP : P.length ≤ 1099511627776) (hw : ∀ d ∈ P, DcW d) (hL : L.length ≤ 1099511627776) (hlw : ∀ m ∈ L, LmW m) (hρ : ρ < 256) :
  LV Tryz.prog 3 [.a (.d (bysD raw)), .a (.d (dcsD P)), .a (.d (lmsD L)), vl (.int .u8 (ρ : Nat))] (vl (.bool true)) := by
 have hrl := hr.len
 obtain ⟨b, hb, cl⟩ := lx_large (raw := raw) (P := P) (L := L) hlw hL hP hrl
 have hr4 : IntKind.i64.wrap ((ρ : Int).tmod 4) = ((ρ % 4 : Nat) : Int) := by
  have e : (ρ : Int).tmod 4 = ((ρ % 4 : Nat) : Int) := rfl
  rw [e, wr64 (by omega) (by omega)]
 have hr5 : (ρ : Int).tmod 4 = ((ρ % 4 : Nat) : Int) := rfl
 refine LX_run (m := 0) (n0 := 0) mix Tryz.func3 rfl rfl rfl rfl ?_
 conv => whnf
 refine .c (lx_awake) ?_
 conv => whnf
 refine .c (cl) ?_
 conv => whnf
 refine bs (fun h1 => ?_) (fun h1 => ?_)
 ·
  conv => whnf
  exact .q ⟨rfl, rfl⟩
 ·
  conv => whnf
  have hs := hb h1
  obtain ⟨s, ⟨hI, _⟩, cs⟩ := lx_scope ⟨by have := hs.raw; omega, hr.by_⟩ hs hw hlw
  refine .c (cs) ?_
  conv => whnf
  rw [hr4]
  refine .c (lx_chooseN hI.sp) ?_
  conv => whnf
  have hstp := hI.step (r := ((ρ % 4 : Nat) : Int))
  have hce : csE s ((ρ % 4 : Nat) : Int) = 0 ∨ (csE s ((ρ % 4 : Nat) : Int) = 10 ∧ openS s = []) := by
   rw [csE, if_neg (by omega)]
   split
   ·
    rename_i h; exact .inr ⟨rfl, List.isEmpty_iff.1 h⟩
   ·
    exact .inl rfl
  have hpl13 := hI.pl
  rcases hce with hce | ⟨hce, hem⟩
  ·
   obtain ⟨s1, s2, s3, s4, s5, s6, s7⟩ := hstp hce
   generalize csD s (onD (gMost (gapS s) (openS s))) ((ρ % 4 : Nat) : Int) = d at *
   have hA := hI.sp.snoc (by omega) s1 s7
   have hB := hI.sp.snoc (d := opD d) (by omega) s1 s7
   refine bF (by rw [hce]; rfl) ?_
   conv => whnf
   refine .c (lx_kids hI.sp (by omega) s1) ?_
   conv => whnf
   rw [s4, s5, s3]
   refine .c (lx_zFits hI.q.ok s1) ?_
   conv => whnf
   rw [s2]
   conv => whnf
   rcases s6 with ⟨u, u1, u2, rfl⟩ | ⟨e3, e2⟩
   ·
    obtain ⟨v1, v2⟩ := phase_kids u1 u2
    conv => whnf
    refine .c (lx_zphase hI.sp) ?_
    conv => whnf
    refine bT (by show (phaseS s u == 0) = true; rw [u2]; rfl) ?_
    conv => whnf
    refine .c (lx_zphase hA) ?_
    conv => whnf
    refine bT (by show (phaseS ⟨s.q, s.path ++ [onD u], s.ls⟩ u == 1) = true; rw [v1]; rfl) ?_
    conv => whnf
    refine .c (lx_zphase hB) ?_
    conv => whnf
    refine bT (by show (phaseS ⟨s.q, s.path ++ [opD (onD u)], s.ls⟩ u == 2) = true; rw [v2]; rfl) ?_
    conv => whnf
    exact .q ⟨rfl, rfl⟩
   ·
    refine bT (by rw [e3]; rfl) ?_
    conv => whnf
    refine bT (by rw [e3]; rfl) ?_
    conv => whnf
    refine bT (by rw [hr5]; simp; omega) ?_
    conv => whnf
    exact .q ⟨rfl, rfl⟩
  ·
   refine bT (by rw [hce]; rfl) ?_
   conv => whnf
   refine bT (by rw [hce]; rfl) ?_
   conv => whnf
   refine .c (lx_zopen hI.sp) ?_
   conv => whnf
   refine bT (by rw [hem]; rfl) ?_
   conv => whnf
   exact .q ⟨rfl, rfl⟩
end Go.Proofs.YtikglhmabidjoaaGreatDoor.Lf
