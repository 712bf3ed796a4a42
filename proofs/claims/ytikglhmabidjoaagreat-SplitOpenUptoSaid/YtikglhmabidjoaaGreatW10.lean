/- Texts LiL LiM LiN LiO LiP LiQ LiS of this proof, in this order. -/
import Derived.Test.YtikglhmabidjoaaGreatW08
import Derived.RangeFuncWrites
set_option linter.unusedVariables false
set_option linter.unusedSimpArgs false
set_option maxRecDepth 100000
set_option maxHeartbeats 4000000
namespace Go.Proofs.YtikglhmabidjoaaGreat.Lf
open Go.RowKit Nt
structure PthI (q : Qu) (P : List Dc) : Prop where
 fit : ∀ d ∈ P, fitB q d = true
 sm : ∀ d ∈ P, d.at_.sm
 bt : ∀ d ∈ P, Bt 128 d.at_.q
 tw : twB P = false
theorem PthI.snoc {q : Qu} {P : List Dc} {d : Dc} (h : PthI q P) (hf : fitB q d = true) (hs : d.at_.sm) (hb : Bt 128 d.at_.q) (ht : twB (P ++ [d]) = false) : PthI q (P ++ [d]) := by
 refine ⟨fun x hx => ?_, fun x hx => ?_, fun x hx => ?_, ht⟩
 ·
  rcases List.mem_append.1 hx with h5 | h5
  ·
   exact h.fit x h5
  ·
   rw [List.mem_singleton.1 h5]; exact hf
 ·
  rcases List.mem_append.1 hx with h5 | h5
  ·
   exact h.sm x h5
  ·
   rw [List.mem_singleton.1 h5]; exact hs
 ·
  rcases List.mem_append.1 hx with h5 | h5
  ·
   exact h.bt x h5
  ·
   rw [List.mem_singleton.1 h5]; exact hb
theorem ext_tw {P : List Dc} {d : Dc} (h : extE P d = 0) : twB (P ++ [d]) = false ∧ extP P d = P ++ [d] := by
 refine ⟨?_, by rw [extP, if_pos h]⟩
 unfold extE at h
 repeat' split at h
 all_goals first | omega | simp_all
structure ScI (s : Sp) : Prop where
 q : QuB s.q
 p : PthI s.q s.path
 pl : s.path.length ≤ 13
 ll : s.ls.length ≤ 40
 ln : ∀ m ∈ s.ls, m.v.sm
 lb : ∀ m ∈ s.ls, Bt 300000000 m.v.q
theorem ScI.sp {s : Sp} (h : ScI s) : SpOk s :=
 ⟨h.q.ok, tL_ h.pl (by decide), h.p.sm, tL_ h.ll (by decide), h.ln, fun x hx => (h.q.r.sl x hx).mono (by decide), fun x hx => (h.q.r.sh x hx).mono (by decide), fun d hd => (h.p.bt d hd).mono (by decide), h.lb⟩
theorem lx_scope {raw : List Nat} {P : List Dc} {L : List Lm} (h : RawOk raw) (hs : SmlA raw P L) (hw : ∀ d ∈ P, DcW d) (hlw : ∀ m ∈ L, LmW m) :
  ∃ s : Sp, (ScI s ∧ ∃ (J : Nat) (l0 : List Lm), LmsOk J l0 ∧ s.ls = l0 ++ L) ∧ LV Tryz.prog 8 [.a (.d (bysD raw)), .a (.d (dcsD P)), .a (.d (lmsD L))] (.agg s.A) := by
 suffices hh : LX Tryz.prog 8 [.a (.d (bysD raw)), .a (.d (dcsD P)), .a (.d (lmsD L))] [] fun v H => ∃ s : Sp, (ScI s ∧ ∃ (J : Nat) (l0 : List Lm), LmsOk J l0 ∧ s.ls = l0 ++ L) ∧ v = .agg s.A ∧ H = [] by
  obtain ⟨v, H', ⟨s, h1, rfl, rfl⟩, hc⟩ := hh
  exact ⟨s, h1, _, _, ⟨rfl, rfl⟩, hc⟩
 have hPl := hs.len
 have hLl := hs.ll
 obtain ⟨q, P0, ls, ⟨hq, hP0, hl0, o1, o2⟩, c⟩ := lx_derived h
 have hI0 : PthI q P0 := ⟨hP0.fit, hP0.sm, fun d hd => (hP0.bt d hd).mono (by decide), hP0.tw⟩
 refine LX_run (m := 0) (n0 := 0) mix Tryz.func8 rfl rfl rfl rfl ?_
 conv => whnf
 refine .c (c) ?_
 conv => whnf
 refine .mk (P0.map Dc.D) rfl rfl (by simp; omega) ?_
 conv => whnf
 refine .mk (Nat × List Dc) (fun (j, Q) => ⟨[(21, vl (.int .i64 (j : Nat))), (20, vl (.int .i64 (P.map Dc.D).length)), (19, .a (.d (dcsD P))), (7, .a (.ptr 1 0)), (6, .a (.ptr 0 0)), (2, .a (.d (lmsD L)))], [(0, .box 43 zSp), (1, .box 43 (Sp.A ⟨q, Q, ls⟩))], 3⟩)
  (fun b => b.1 ≤ P.length ∧ PthI q b.2 ∧ b.2.length ≤ 3 + b.1) (fun b => P.length - b.1) (0, P0) (Wk.go (h2 := ⟨⟨_, rfl, wke_refl _, rfl⟩, ⟨_, rfl, ⟨_, rfl, aR_ _, aR_ _, aR_ _, aR_ _, aR_ _, aR_ _, aR_ _, aR_ _, aR_ _, aR_ _, WkA.own, aR_ _, trivial⟩, rfl⟩, trivial⟩)) ⟨zL_ _, hI0, by simp only; omega⟩ fun ⟨j, Q⟩ hb => ?_
 obtain ⟨hj, hQ, hQl⟩ := hb
 simp only at hj hQ hQl
 conv => whnf
 refine bs (fun h1 => ?_) (fun h1 => ?_)
 ·
  conv => whnf
  have h1' : j < P.length := by simpa using h1
  obtain ⟨d, hd⟩ := at_some h1'
  have hdm := mG_ hd
  obtain ⟨d4, d5⟩ := hs.dc d hdm
  obtain ⟨d6, d7⟩ := hw d hdm
  have hdb := bt_raw d4 d5 d6 d7
  have hsm : d.at_.sm := ⟨by omega, by omega⟩
  refine .mk (j) (d.D) (rfl) (at_map hd) ?_
  conv => whnf
  conv => whnf
  refine .c (lx_zFits hq.ok hsm) ?_
  conv => whnf
  refine bs (fun h2 => ?_) (fun h2 => ?_)
  ·
   conv => whnf
   refine .c (lx_zextend (l := Q) (by omega) hQ.sm hsm) ?_
   conv => whnf
   refine bs (fun h3 => ?_) (fun h3 => ?_)
   ·
    conv => whnf
    have h3' : extE Q d = 0 := by simpa using h3
    obtain ⟨t1, t2⟩ := ext_tw h3'
    rw [t2]
    exact ⟨(j + 1, Q ++ [d]), Wk.go, ⟨h1', hQ.snoc h2 hsm hdb t1, by simp; omega⟩, by simp only; omega⟩
   ·
    conv => whnf
    exact ⟨(j + 1, Q), Wk.go, ⟨h1', hQ, by simp only; omega⟩, by simp only; omega⟩
  ·
   conv => whnf
   exact ⟨(j + 1, Q), Wk.go, ⟨h1', hQ, by simp only; omega⟩, by simp only; omega⟩
 ·
  conv => whnf
  refine .mk (ls.map Lm.D) rfl rfl (by simp; omega) ?_
  conv => whnf
  refine .mk ((ls ++ L).map Lm.D) rfl (by rw [List.map_append]) (by simp; omega) ?_
  conv => whnf
  have hsm : ∀ m ∈ ls ++ L, m.v.sm ∧ Bt 300000000 m.v.q := fun m hm => by
   rcases List.mem_append.1 hm with h5 | h5
   ·
    obtain ⟨_, _, ⟨x, e, hx⟩, _⟩ := o1 m h5
    have hb := beta_le m.u.toNat
    rw [e, can_q]
    exact ⟨Sz.sm (hx.mono (by omega)), hx.mono (by omega)⟩
   ·
    obtain ⟨w1, w2, _⟩ := hlw m h5
    obtain ⟨w3, w4⟩ := hs.lm m h5
    exact ⟨⟨by omega, by omega⟩, (bt_raw w3 w4 w1 w2).mono (by decide)⟩
  exact .s ⟨⟨q, Q, ls ++ L⟩, ⟨⟨hq, hQ, by simp only; omega, by simp; omega, fun m hm => (hsm m hm).1, fun m hm => (hsm m hm).2⟩, q.g.us.length, ls, o1, rfl⟩, rfl, rfl⟩
def vB : Nat → Nat
 | 0 => 50
 | j + 1 => 7 * vB j + 60
structure RawOk' (raw : List Nat) : Prop where
 len : raw.length ≤ 1099511627776
 by_ : ∀ b ∈ raw, b < 256
theorem lx_zopen {s : Sp} (hs : SpOk s) : LV Tryz.prog 9 [.agg s.A] (.a (.d (natsD (openS s)))) := by
 have hu1 := hs.q.g.u1
 have hol := fun j => openTo_len s j
 refine LX_run (m := 0) (n0 := 0) mix Tryz.func9 rfl rfl rfl rfl ?_
 conv => whnf
 refine .c (lx_zquvalid hs.q) ?_
 conv => whnf
 refine .mk Nat (fun j => ⟨[(4, vl (.int .i64 (j : Nat))), (3, .a (.own 1 1 ((openTo s j).map fun j => [D.lit (encN j)]))), (1, .a (.ptr 0 0))], [(0, .box 43 s.A), (1, .arr 3 1 ((openTo s j).map fun j => [D.lit (encN j)]).length)], 2⟩) (fun j => j ≤ s.q.g.us.length) (fun j => s.q.g.us.length - j) 0 (Wk.trans (Wk.own 3 1 3 1 rfl rfl (zL_ _)) Wk.go) (zL_ _) fun j hj => ?_
 have hoj := hol j
 have hsu := openTo_succ s j
 conv => whnf
 refine bs (fun h1 => ?_) (fun h1 => ?_)
 ·
  conv => whnf
  have h1' : j < s.q.g.us.length := by simpa using h1
  refine .c (lx_zphase hs) ?_
  conv => whnf
  refine bs (fun h2 => ?_) (fun h2 => ?_)
  ·
   conv => whnf
   have e : openB s j = true := h2
   rw [if_pos e] at hsu
   refine .mk ((openTo s (j + 1)).map fun j => [D.lit (encN j)]) rfl (by rw [hsu, List.map_append]; rfl) (by rw [List.length_map, hsu]; simp; omega) ?_
   conv => whnf
   exact ⟨j + 1, Wk.go, h1', by omega⟩
  ·
   conv => whnf
   have e : ¬ openB s j = true := by show ¬ (phaseS s j == 0) = true; rw [h2]; exact Bool.false_ne_true
   rw [if_neg e] at hsu
   exact ⟨j + 1, by rw [hsu]; exact Wk.go, h1', by omega⟩
 ·
  conv => whnf
  have e : j = s.q.g.us.length := by simp at h1; omega
  subst e
  exact .s ⟨rfl, rfl⟩
abbrev zQu : List A := [.d (.lit (.int .i64 0)), .d (.lit (.slice none 0 0)), .d (.lit (.slice none 0 0)), .d (.lit (.slice none 0 0)), .d (.lit (.slice none 0 0)), .d (.lit (.slice none 0 0)), .d (.lit (.slice none 0 0)), .d (.lit (.bool false)), .d (.nat 0), .d (.nat 0)]
theorem lx_gzero : LV Tryz.prog 61 [.agg [.d (.lit (.int .i64 0)), .d (.lit (.slice none 0 0)), .d (.lit (.slice none 0 0))]] (vl (.bool false)) := by
 refine LX_run (m := 0) (n0 := 0) mix Tryz.func61 rfl rfl rfl rfl ?_
 conv => whnf
 exact .q ⟨rfl, rfl⟩
theorem lx_qzero : LV Tryz.prog 29 [.agg zQu] (vl (.bool false)) := by
 refine LX_run (m := 0) (n0 := 0) mix Tryz.func29 rfl rfl rfl rfl ?_
 conv => whnf
 refine .c (lx_gzero) ?_
 conv => whnf
 exact .q ⟨rfl, rfl⟩
end Go.Proofs.YtikglhmabidjoaaGreat.Lf
namespace Go.Proofs.YtikglhmabidjoaaGreat.Lf
open Go.RowKit Nt
attribute [local go_sem] Oper.semAt_some
structure Kg (n₀ g : Nat) (A B : World) : Prop where
 b : Below n₀ A B
 g : B.heap[g]? = A.heap[g]?
theorem Kg.trans {n₀ g : Nat} {A B C : World} (h : Kg n₀ g A B) (k : Kg n₀ g B C) : Kg n₀ g A C := ⟨h.b.trans k.b, k.g.trans h.g⟩
def Gd (w : World) (g : Nat) (vs : List Value) (W : World) : Prop := Below w.heap.size w W ∧ W.heap[g]? = some (.cells vs.toArray 43 (0, 0))
theorem Gd.on {w W W' : World} {g : Nat} {vs : List Value} (h : Gd w g vs W) (k : Below W.heap.size W W') : Gd w g vs W' :=
 ⟨h.1.trans (k.mono h.1.size), (k.block g (Array.getElem?_eq_some_iff.1 h.2).1).trans h.2⟩
theorem Gd.kg {w W W' : World} {g : Nat} {vs : List Value} (h : Gd w g vs W) (k : Kg w.heap.size g W W') : Gd w g vs W' := ⟨h.1.trans k.b, k.g.trans h.2⟩
theorem open1g_in {s : Sp} (hs : SpOk s) (n : Nat) (hn : 1 ≤ n) (l g : Nat) (w : World) (hG : Glb M0 w) (vs : List Value) (hv : ScW s w vs) (J Jx : List Nat → World → Prop)
  (B : Nat) (hJ : AbidesFrom B J) (hY : ∀ pre x W, J pre W → pre.length < (openS s).length → YieldAt Fence.wide (n - 1) Tryz.prog l #[encN x] W fun e W' =>
   (e = .returned (.bool true) ∧ J (pre ++ [x]) W' ∧ Kg w.heap.size g W W') ∨ (e = .returned (.bool false) ∧ Jx (pre ++ [x]) W'))
  (W : World) (hW : Gd w g vs W) (h0 : J [] W) :
  CallsIn Fence.wide n Tryz.prog 28 #[.func (.yield l) #[] #[], .pointer (some ⟨g, 0, none⟩)] W fun e W' => (∃ v, e = .returned v) ∧
   ((∃ ys, ys = openS s ∧ J ys W') ∨ (∃ pre, pre <+: openS s ∧ Jx pre W')) := by
 have hul := hs.q.g.u1
 obtain ⟨a1, c1, v2, v3, v4, v5, v6, v7, v8, v9, v10, v11, rfl⟩ := hv.open
 have hcell : ∀ {W' : World}, Gd w g [.int .i64 s.q.g.n, .slice a1 s.q.g.us.length c1, v2, v3, v4, v5, v6, v7, v8, v9, v10, v11] W' → W'.heap[g]? = some (.cells [.int .i64 s.q.g.n, .slice a1 s.q.g.us.length c1, v2, v3, v4, v5, v6, v7, v8, v9, v10, v11].toArray 43 (0, 0)) := fun h => h.2
 have hGl : ∀ {W' : World}, Gd w g [.int .i64 s.q.g.n, .slice a1 s.q.g.us.length c1, v2, v3, v4, v5, v6, v7, v8, v9, v10, v11] W' → Glb M0 W' := fun h => hG.fx (fx_below h.1)
 refine callsIn_of_wp Tryz.func28 rfl trivial ?_ rfl
 simp only [Tryz.ntmps28, List.size_toArray, List.length_cons, List.length_nil, Nat.reduceAdd, Nat.reduceSub, Array.replicate_succ, Array.replicate_zero, List.push_toArray, List.append_toArray, List.nil_append, List.cons_append]
 have cf : ∀ {W' : World}, Gd w g [.int .i64 s.q.g.n, .slice a1 s.q.g.us.length c1, v2, v3, v4, v5, v6, v7, v8, v9, v10, v11] W' → W'.cell? ⟨g, 0, none⟩ = some (.int .i64 s.q.g.n) ∧ W'.cell? ⟨g, 1, none⟩ = some (.slice a1 s.q.g.us.length c1) ∧ W'.cell? ⟨g, 2, none⟩ = some v2 ∧ W'.cell? ⟨g, 3, none⟩ = some v3 ∧ W'.cell? ⟨g, 4, none⟩ = some v4 ∧ W'.cell? ⟨g, 5, none⟩ = some v5 ∧ W'.cell? ⟨g, 6, none⟩ = some v6 ∧
   W'.cell? ⟨g, 7, none⟩ = some v7 ∧ W'.cell? ⟨g, 8, none⟩ = some v8 ∧ W'.cell? ⟨g, 9, none⟩ = some v9 ∧ W'.cell? ⟨g, 10, none⟩ = some v10 ∧ W'.cell? ⟨g, 11, none⟩ = some v11 := fun h => by
  have := hcell h
  simp only [World.cell?, this]
  exact ⟨rfl, rfl, rfl, rfl, rfl, rfl, rfl, rfl, rfl, rfl, rfl, rfl⟩
 obtain ⟨d0, d1, d2, d3, d4, d5, d6, d7, d8, d9, d10, d11⟩ := cf hW
 have hvW := hv.to hW.1
 gi_wp2_with fail
 refine ⟨trivial, (callsIn_wide.2 (lv_lit (rs := [.agg #[.int .i64 s.q.g.n, .slice a1 s.q.g.us.length c1, v2, v3, v4, v5, v6, v7, v8, v9]]) (lx_quvalid hs.q) (hGl hW) ⟨⟨[.int .i64 s.q.g.n, .slice a1 s.q.g.us.length c1, v2, v3, v4, v5, v6, v7, v8, v9], rfl, hvW.1, hvW.2.1, hvW.2.2.1, hvW.2.2.2.1, hvW.2.2.2.2.1, hvW.2.2.2.2.2.1, hvW.2.2.2.2.2.2.1, hvW.2.2.2.2.2.2.2.1, hvW.2.2.2.2.2.2.2.2.1, hvW.2.2.2.2.2.2.2.2.2.1, trivial⟩, trivial⟩)).mono ?_⟩
 rintro e W1 ⟨rfl, hb1⟩
 have hW1 := hW.on hb1
 clear d0 d1 d2 d3 d4 d5 d6 d7 d8 d9 d10 d11
 obtain ⟨d0, d1, d2, d3, d4, d5, d6, d7, d8, d9, d10, d11⟩ := cf hW1
 gi_wp2_with fail
 gi_loopw [13] (fun i wr => ∃ k : Nat, k ≤ s.q.g.us.length ∧ i = .int .i64 k ∧ Gd w g [.int .i64 s.q.g.n, .slice a1 s.q.g.us.length c1, v2, v3, v4, v5, v6, v7, v8, v9, v10, v11] wr ∧ J (openTo s k) wr) (fun i _ => s.q.g.us.length - (intOf i).toNat)
 case atStart => exact ⟨0, zL_ _, rfl, hW1, hJ _ _ _ none h0 ⟨hb1.os, hb1.tape, hb1.output, hb1.size, fun i hi _ => hb1.block i hi⟩ (fun r e => by cases e)⟩
 case round =>
  obtain ⟨k, hk, rfl, hWr, hJr⟩ := hrel
  clear d0 d1 d2 d3 d4 d5 d6 d7 d8 d9 d10 d11
  obtain ⟨d0, d1, d2, d3, d4, d5, d6, d7, d8, d9, d10, d11⟩ := cf hWr
  have hvr := hv.to hWr.1
  gi_wp2_with fail
  ·
   have hlt : k < s.q.g.us.length := by assumption
   refine ⟨trivial, (callsIn_wide.2 (lv_lit (rs := [.agg #[.int .i64 s.q.g.n, .slice a1 s.q.g.us.length c1, v2, v3, v4, v5, v6, v7, v8, v9, v10, v11], .int .i64 k]) (lx_phase hs (u := k)) (hGl hWr) ⟨⟨_, rfl, hvr⟩, .lit _, trivial⟩)).mono ?_⟩
   rintro e W2 ⟨rfl, hb2⟩
   have hW2 := hWr.on hb2
   have hJ2 : J (openTo s k) W2 := hJ _ _ _ none hJr ⟨hb2.os, hb2.tape, hb2.output, hb2.size, fun i hi _ => hb2.block i hi⟩ (fun r e => by cases e)
   have hlen := openTo_len s k
   by_cases ho : openB s k = true
   ·
    have ho' : (phaseS s k == 0) = true := ho
    have hlt2 : (openTo s k).length < (openS s).length := by
     have h1 := (openTo_pre s (show k + 1 ≤ s.q.g.us.length from hlt)).length_le
     rw [openTo_succ, if_pos ho] at h1
     rw [List.length_append] at h1
     exact h1
    obtain ⟨fn, tmps, assign, body, hy, hR⟩ := hY (openTo s k) k W2 hJ2 hlt2
    dsimp only [encN] at hy
    gi_wp2
    refine hR.mono ?_
    rintro e W3 (⟨rfl, hJ3, hk3⟩ | ⟨rfl, hJx3⟩)
    ·
     gi_wp2
     exact ⟨⟨k + 1, by omega, by go_num, hW2.kg hk3, by rw [openTo_succ, if_pos ho]; exact hJ3⟩, by simp [intOf]; omega⟩
    ·
     gi_wp2
     refine bodyPost_ret (results_none rfl _ _ _) rfl ?_
     refine ⟨⟨_, rfl⟩, .inr ⟨openTo s k ++ [k], ?_, hJx3⟩⟩
     have := openTo_pre s (show k + 1 ≤ s.q.g.us.length from hlt)
     rwa [openTo_succ, if_pos ho] at this
   ·
    have ho' : (phaseS s k == 0) = false := by
     cases h : (phaseS s k == 0) with
     | true => exact absurd h ho
     | false => rfl
    gi_wp2
    refine ⟨fun f h => (by cases h), ?_⟩
    gi_wp2
    exact ⟨⟨k + 1, by omega, by go_num, hW2, by rw [openTo_succ, if_neg ho]; exact hJ2⟩, by simp [intOf]; omega⟩
  ·
   have e : k = s.q.g.us.length := by omega
   subst e
   go_end0
   exact ⟨⟨_, rfl⟩, .inl ⟨_, rfl, hJr⟩⟩
theorem openg_stops {s : Sp} (hs : SpOk s) (n : Nat) (hn : 1 ≤ n) (g : Nat) (w w0 : World) (hG : Glb M0 w) (vs : List Value) (hv : ScW s w vs) (hg : Gd w g vs w0) :
  SeqStopsK Fence.wide n Tryz.prog 28 #[.pointer (some ⟨g, 0, none⟩)] (fun x : Nat => #[encN x]) (Kg w.heap.size g) (fun ys => ys = openS s) (fun pre => pre <+: openS s) (openS s).length w0 := fun l J Jx W hW hJ _ hY h0 =>
 open1g_in hs n hn l g w hG vs hv J Jx _ hJ hY W (hg.on hW) h0
abbrev zVs : List Value := [.int .i64 0, .slice none 0 0, .slice none 0 0, .slice none 0 0, .slice none 0 0, .slice none 0 0, .slice none 0 0, .bool false, .slice none 0 0, .slice none 0 0, .slice none 0 0, .slice none 0 0]
theorem zVs_rd {M : MS} {w : World} : All2 (RdA γ0 (look []) M w) zQu (zVs.take 10) := ⟨.lit _, .lit _, .lit _, .lit _, .lit _, .lit _, .lit _, .lit _, nat0_ok, nat0_ok, trivial⟩
theorem open1z_in (n : Nat) (hn : 1 ≤ n) (l g : Nat) (W : World) (hG : Glb M0 W) (hg : W.heap[g]? = some (.cells zVs.toArray 43 (0, 0))) :
  CallsIn Fence.wide n Tryz.prog 28 #[.func (.yield l) #[] #[], .pointer (some ⟨g, 0, none⟩)] W fun e W' => (∃ v, e = .returned v) ∧ Below W.heap.size W W' := by
 refine callsIn_of_wp Tryz.func28 rfl trivial ?_ rfl
 simp only [Tryz.ntmps28, List.size_toArray, List.length_cons, List.length_nil, Nat.reduceAdd, Nat.reduceSub, Array.replicate_succ, Array.replicate_zero, List.push_toArray, List.append_toArray, List.nil_append, List.cons_append]
 obtain ⟨d0, d1, d2, d3, d4, d5, d6, d7, d8, d9, d10, d11⟩ : W.cell? ⟨g, 0, none⟩ = some (.int .i64 0) ∧ W.cell? ⟨g, 1, none⟩ = some (.slice none 0 0) ∧ W.cell? ⟨g, 2, none⟩ = some (.slice none 0 0) ∧ W.cell? ⟨g, 3, none⟩ = some (.slice none 0 0) ∧ W.cell? ⟨g, 4, none⟩ = some (.slice none 0 0) ∧ W.cell? ⟨g, 5, none⟩ = some (.slice none 0 0) ∧ W.cell? ⟨g, 6, none⟩ = some (.slice none 0 0) ∧
   W.cell? ⟨g, 7, none⟩ = some (.bool false) ∧ W.cell? ⟨g, 8, none⟩ = some (.slice none 0 0) ∧ W.cell? ⟨g, 9, none⟩ = some (.slice none 0 0) ∧ W.cell? ⟨g, 10, none⟩ = some (.slice none 0 0) ∧ W.cell? ⟨g, 11, none⟩ = some (.slice none 0 0) := by
  simp only [World.cell?, hg]
  exact ⟨rfl, rfl, rfl, rfl, rfl, rfl, rfl, rfl, rfl, rfl, rfl, rfl⟩
 gi_wp2_with fail
 refine ⟨trivial, (callsIn_wide.2 (lv_lit (rs := [.agg #[.int .i64 0, .slice none 0 0, .slice none 0 0, .slice none 0 0, .slice none 0 0, .slice none 0 0, .slice none 0 0, .bool false, .slice none 0 0, .slice none 0 0]]) lx_qzero hG ⟨⟨_, rfl, zVs_rd⟩, trivial⟩)).mono ?_⟩
 rintro e W1 ⟨rfl, hb1⟩
 gi_wp2_with fail
 exact bodyPost_ret (results_none rfl _ _ _) rfl ⟨⟨_, rfl⟩, hb1⟩
theorem openz_stops (n : Nat) (hn : 1 ≤ n) (g : Nat) (w0 : World) (hG : Glb M0 w0) (hg : w0.heap[g]? = some (.cells zVs.toArray 43 (0, 0))) :
  SeqStopsK Fence.wide n Tryz.prog 28 #[.pointer (some ⟨g, 0, none⟩)] (fun x : Nat => #[encN x]) (fun _ _ => True) (fun ys => ys = []) (fun _ => False) 0 w0 := fun l J Jx W hW hJ _ hY h0 => by
 refine (open1z_in n hn l g W (hG.fx (fx_below hW)) ((hW.block g (Array.getElem?_eq_some_iff.1 hg).1).trans hg)).mono ?_
 rintro e W' ⟨h1, h2⟩
 exact ⟨h1, .inl ⟨[], rfl, hJ _ _ _ none h0 ⟨h2.os, h2.tape, h2.output, h2.size, fun i hi _ => h2.block i hi⟩ (fun r e => by cases e)⟩⟩
theorem open_at {z : Int} {a1 a2 a3 a4 a5 a6 a8 a9 a10 a11 : Option Addr} {n1 n2 n3 n4 n5 n6 n8 n9 n10 n11 c1 c2 c3 c4 c5 c6 c8 c9 c10 c11 : Nat} {b : Bool} {w : World} {n : Nat} :
  CallsIn Fence.wide n Tryz.prog 10 #[.agg #[.int .i64 z, .slice a1 n1 c1, .slice a2 n2 c2, .slice a3 n3 c3, .slice a4 n4 c4, .slice a5 n5 c5, .slice a6 n6 c6, .bool b, .slice a8 n8 c8, .slice a9 n9 c9, .slice a10 n10 c10, .slice a11 n11 c11]] w fun e w' =>
  e = .returned (.func (.func 28) #[] #[.pointer (some ⟨w.heap.size, 0, none⟩)]) ∧ w' = w.alloc (.cells [Value.int .i64 z, .slice a1 n1 c1, .slice a2 n2 c2, .slice a3 n3 c3, .slice a4 n4 c4, .slice a5 n5 c5, .slice a6 n6 c6, .bool b, .slice a8 n8 c8, .slice a9 n9 c9, .slice a10 n10 c10, .slice a11 n11 c11].toArray 43) := by
 refine callsIn_of_wp Tryz.func10 rfl trivial ?_ rfl
 simp only [Tryz.ntmps10, List.size_toArray, List.length_cons, List.length_nil, Nat.reduceAdd, Nat.reduceSub, Array.replicate_succ, Array.replicate_zero, List.push_toArray, List.append_toArray, List.nil_append, List.cons_append]
 gi_wp2_with fail
 exact bodyPost_ret (results_tmp rfl _ _ _) rfl ⟨rfl, rfl⟩
theorem ownFrom_kg {β : Type} {n₀ g B : Nat} {w₀ : World} (hn : n₀ ≤ w₀.heap.size) (hg : g < w₀.heap.size) (hB : w₀.heap.size ≤ B) : OwnFrom B (fun (_ : β) W => Kg n₀ g w₀ W) :=
 fun _ _ _ _ hs hb hr => ⟨hs.b.grown hb (tL_ hn hs.b.size) fun k e => tL_ (tL_ hn hB) (hr k e).1, (hb.block g (Nat.lt_of_lt_of_le hg hs.b.size) fun e => by have := (hr g e.symm).1; omega).trans hs.g⟩
theorem kg_b {n₀ g : Nat} {w : World} (hn : n₀ ≤ w.heap.size) (hg : g < w.heap.size) (W : World) (l : Nat) (o o' : Obj) (hl : w.heap.size ≤ l) (h : W.heap[l]? = some o) (h1 : o.isCells = false) (h2 : o.isWalk = false) : Kg n₀ g W (W.putObj l o') :=
 ⟨belowK_b hn W l o o' hl h h1 h2, World.putObj_heap_other (by omega)⟩
theorem kg_app {W w1 : World} {n₀ g B : Nat} {e ts : TypeId} {cs : Array Value} {size : Nat} {v v' : Value} {k : Nat} {xs : List Value} {tmp : Obj} (hg : W.heap[g]? = some (.cells cs ts (0, 0))) (hte : ts ≠ e) (hgB : g ≠ B)
  (hrow : W.ownsRow n₀ e size v k xs) (hgrow : (W.alloc tmp).grownBy w1 v.ownBlock) (hb : Below n₀ W (w1.setCell ⟨B, 0, none⟩ v')) : Kg n₀ g W (w1.setCell ⟨B, 0, none⟩ v') := by
 have hlt : g < W.heap.size := (Array.getElem?_eq_some_iff.1 hg).1
 have h1 : (W.alloc tmp).heap[g]? = W.heap[g]? := Below.heap_alloc _ _ _ hlt
 have h2 : w1.heap[g]? = (W.alloc tmp).heap[g]? := hgrow.block g (by simp; omega) (by
  rcases hrow.2 with ⟨rfl, _⟩ | ⟨g', cap, cur, rfl, _, hgb, _⟩
  ·
   simp [Value.ownBlock]
  ·
   intro e'
   obtain rfl : g = g' := by simpa [Value.ownBlock] using e'
   have := hg.symm.trans hgb
   simp at this
   exact hte this.2)
 refine ⟨hb, ((grownBy_setCell' w1 B v').block g ?_ fun e => hgB (by injection e)).trans (h2.trans h1)⟩
 have := hgrow.size
 simp at this; omega
theorem rd_head {x : Nat} {xs : List Nat} {M : MS} {w : World} {a : Option Addr} {n c : Nat} (h : RdD M w (natsD (x :: xs)) (.slice a n c)) : ∃ b o, a = some ⟨b, o, none⟩ ∧ 0 < n ∧ w.cell? ⟨b, o, none⟩ = some (encN x) := by
 cases h with
 | sl k ys ad cap vs hc hl h0 hk h1 hr =>
   obtain ⟨b, o, rfl, hf⟩ := h0 (by simp)
   refine ⟨b, o, rfl, by simp, ?_⟩
   have h2 := (hf 0 [.lit (encN x)] 0 (.lit (encN x)) rfl rfl).2
   rw [show vs 0 0 = encN x from lit_inv (hr 0 _ 0 _ rfl rfl)] at h2
   simpa using h2
theorem lx_sameints {l : List Nat} (hl : l.length ≤ 1099511627776) : LV Tryz.prog 11 [.a (.d (natsD l)), .a (.d (natsD l))] (vl (.bool true)) := by
 refine LX_run (m := 0) (n0 := 0) mix Tryz.func11 rfl rfl rfl rfl ?_
 conv => whnf
 refine bF (by simp) ?_
 conv => whnf
 refine .mk Nat (fun i => ⟨[(5, vl (.int .i64 (i : Nat))), (1, .a (.d (natsD l))), (0, .a (.d (natsD l)))], [], 0⟩) (fun i => i ≤ l.length) (fun i => l.length - i) 0 Wk.go (zL_ _) fun i hi => ?_
 conv => whnf
 refine bs (fun h1 => ?_) (fun h1 => ?_)
 ·
  conv => whnf
  have h1' : i < l.length := by simpa using h1
  obtain ⟨v, hv⟩ := at_some h1'
  repeat' first | (refine bF (by simp) ?_; conv => whnf) | (refine bs (fun h => ?_) (fun h => ?_) <;> conv => whnf) | (refine Nc.mk (by kernel_rfl) ?_; conv => whnf) | (refine .mk i [D.lit (encN v)] rfl (at_map hv) ?_; conv => whnf)
  exact ⟨i + 1, Wk.go, h1', by omega⟩
 ·
  conv => whnf
  exact .q ⟨rfl, rfl⟩
theorem rd_sl0 {k : Nat} {xs : List (List D)} {M : MS} {w : World} {v : Value} (h : RdD M w (.sl k xs) v) : ∃ a n c, v = .slice a n c := by
 cases h; exact ⟨_, _, _, rfl⟩
theorem rd_lm0 {xs : List Nat} {M : MS} {w : World} {v : Value} (h : RdD M w (.lm xs) v) : ∃ a n c, v = .slice a n c := by
 cases h with
 | lm _ _ h _ => obtain ⟨ad, l, c, e, _⟩ := h; exact ⟨_, _, _, e⟩
theorem ScW.shape {s : Sp} {w : World} {vs : List Value} (h : ScW s w vs) : ∃ a1 c1 a2 n2 c2 a3 n3 c3 a4 n4 c4 a5 n5 c5 a6 n6 c6 b a8 n8 c8 a9 n9 c9 a10 n10 c10 a11 n11 c11, vs = [.int .i64 s.q.g.n, .slice a1 s.q.g.us.length c1, .slice a2 n2 c2, .slice a3 n3 c3, .slice a4 n4 c4, .slice a5 n5 c5, .slice a6 n6 c6, .bool b, .slice a8 n8 c8, .slice a9 n9 c9, .slice a10 n10 c10, .slice a11 n11 c11] := by
 obtain ⟨a1, c1, v2, v3, v4, v5, v6, v7, v8, v9, v10, v11, rfl⟩ := h.open
 obtain ⟨_, _, h2, h3, h4, h5, h6, h7, h8, h9, h10, h11, _⟩ := h
 obtain ⟨a2, n2, k2, rfl⟩ := rd_sl0 h2
 obtain ⟨a3, n3, k3, rfl⟩ := rd_sl0 h3
 obtain ⟨a4, n4, k4, rfl⟩ := rd_sl0 h4
 obtain ⟨a5, n5, k5, rfl⟩ := rd_sl0 h5
 obtain ⟨a6, n6, k6, rfl⟩ := rd_sl0 h6
 obtain rfl := lit_inv h7
 obtain ⟨a8, n8, k8, rfl⟩ := rd_lm0 h8
 obtain ⟨a9, n9, k9, rfl⟩ := rd_lm0 h9
 obtain ⟨a10, n10, k10, rfl⟩ := rd_sl0 h10
 obtain ⟨a11, n11, k11, rfl⟩ := rd_sl0 h11
 exact ⟨a1, c1, a2, n2, k2, a3, n3, k3, a4, n4, k4, a5, n5, k5, a6, n6, k6, _, a8, n8, k8, a9, n9, k9, a10, n10, k10, a11, n11, k11, rfl⟩
theorem cells12 {W : World} {g : Nat} {v0 v1 v2 v3 v4 v5 v6 v7 v8 v9 v10 v11 : Value} {t : TypeId} (h : W.heap[g]? = some (.cells [v0, v1, v2, v3, v4, v5, v6, v7, v8, v9, v10, v11].toArray t (0, 0))) : W.cell? ⟨g, 0, none⟩ = some v0 ∧ W.cell? ⟨g, 1, none⟩ = some v1 ∧ W.cell? ⟨g, 2, none⟩ = some v2 ∧ W.cell? ⟨g, 3, none⟩ = some v3 ∧ W.cell? ⟨g, 4, none⟩ = some v4 ∧ W.cell? ⟨g, 5, none⟩ = some v5 ∧ W.cell? ⟨g, 6, none⟩ = some v6 ∧
  W.cell? ⟨g, 7, none⟩ = some v7 ∧ W.cell? ⟨g, 8, none⟩ = some v8 ∧ W.cell? ⟨g, 9, none⟩ = some v9 ∧ W.cell? ⟨g, 10, none⟩ = some v10 ∧ W.cell? ⟨g, 11, none⟩ = some v11 := by
 simp only [World.cell?, h]
 exact ⟨rfl, rfl, rfl, rfl, rfl, rfl, rfl, rfl, rfl, rfl, rfl, rfl⟩
theorem results_cellb {fn : Func} {t : Nat} (h : fn.results = ⟨[.cell t 4]⟩) {tmps : Array Value} {w : World} {b : Nat} {v : Bool} (ht : tmps.getD t undef = .pointer (some ⟨b, 0, none⟩)) (hc : w.cell? ⟨b, 0, none⟩ = some (.bool v)) :
  (results fn tmps).run Tryz.prog w = .ok (.bool v) w := by
 refine results_run (a := { tmps := tmps, defers := [] }) [.cell t 4] [.bool v] h rfl (Nat.le_of_ble_eq_true rfl) fun i x r hx hr => ?_
 rcases i with _ | i
 ·
  simp at hx hr
  subst hx hr
  refine ⟨_, ht, ?_⟩
  exact loadVar_run (ag := false) (s := 1) (by kernel_rfl) (by kernel_rfl) (fun _ => rfl) (vs := [.bool v]) rfl fun j u hj => by
   rcases j with _ | j
   ·
    simp at hj; subst hj; exact hc
   ·
    simp at hj
 ·
  simp at hx
theorem openlaw_in {raw : List Nat} {P : List Dc} {L : List Lm} (hr : RawOk' raw) (hP : P.length ≤ 1099511627776) (hL : L.length ≤ 1099511627776) (hw : ∀ d ∈ P, DcW d) (hlw : ∀ m ∈ L, LmW m)
  (w : World) (hG : Glb M0 w) (r0 r1 r2 : Value) (k0 : RdD M0 w (bysD raw) r0) (k1 : RdD M0 w (dcsD P) r1) (k2 : RdD M0 w (lmsD L) r2) :
  CallsIn Fence.wide 9 Tryz.prog 3 #[r0, r1, r2] w fun e W' => e = .returned (.bool true) ∧ Below w.heap.size w W' := by
 have hrl := hr.len
 obtain ⟨b, hb, cl⟩ := lx_large (raw := raw) (P := P) (L := L) hlw hL hP hrl
 refine callsIn_of_wp_marks Tryz.func3 rfl trivial ?_ rfl
 simp only [Tryz.ntmps3, List.size_toArray, List.length_cons, List.length_nil, Nat.reduceAdd, Nat.reduceSub, Array.replicate_succ, Array.replicate_zero, List.push_toArray, List.append_toArray, List.nil_append, List.cons_append]
 have hB0 : Below w.heap.size w (w.alloc (.cells #[.bool false] 4)) := (bR_ _ w).alloc (lR_ _) _
 have bx0 := Boxed.new w 4 (.bool false)
 generalize hW0 : w.alloc (.cells #[.bool false] 4) = W0 at *
 gi_wp2_with (rw [hW0])
 refine ⟨trivial, (callsIn_wide.2 (lv_lit (rs := []) lx_awake (hG.fx (fx_below hB0)) trivial)).mono ?_⟩
 rintro e W1 ⟨rfl, hb1⟩
 have hB1 : Below w.heap.size w W1 := hB0.trans (hb1.mono hB0.size)
 gi_wp2_with fail
 refine ⟨trivial, (callsIn_wide.2 (lv_lit (rs := [r0, r1, r2]) cl (hG.fx (fx_below hB1)) ⟨RdD.fx (fx_below hB1) k0, RdD.fx (fx_below hB1) k1, RdD.fx (fx_below hB1) k2, trivial⟩)).mono ?_⟩
 rintro e W2 ⟨rfl, hb2⟩
 have hB2 : Below w.heap.size w W2 := hB1.trans (hb2.mono hB1.size)
 have bx2 : Boxed W2 w.heap.size 4 (.bool false) := ((hb1.trans (hb2.mono hb1.size)).block w.heap.size bx0.lt).trans bx0
 have c2 := bx2.cell
 have f2 := bx2.frozen
 cases b with
 | true =>
   gi_wp2
   exact ⟨_, results_cellb rfl rfl (bx2.set (.bool true)).cell, rfl, hB2.setCell (lR_ _) _⟩
 | false =>
   have hsm := hb rfl
   obtain ⟨s, ⟨hI, _⟩, cs⟩ := lx_scope ⟨by have := hsm.raw; omega, hr.by_⟩ hsm hw hlw
   gi_wp2_with fail
   refine ⟨trivial, (callsIn_wide.2 (lv_at (rs := [r0, r1, r2]) cs (hG.fx (fx_below hB2)) ⟨RdD.fx (fx_below hB2) k0, RdD.fx (fx_below hB2) k1, RdD.fx (fx_below hB2) k2, trivial⟩)).mono ?_⟩
   rintro e W3 ⟨r, rfl, hb3, γ', M', vs, rfl, hvs⟩
   have hB3 : Below w.heap.size w W3 := hB2.trans (hb3.mono hB2.size)
   have hv3 := scw_of hvs
   obtain ⟨a1, c1, a2, n2, q2, a3, n3, q3, a4, n4, q4, a5, n5, q5, a6, n6, q6, bb, a8, n8, q8, a9, n9, q9, a10, n10, q10, a11, n11, q11, rfl⟩ := hv3.shape
   gi_wp2_with fail
   have hv3' : ScW s W3 [.int .i64 s.q.g.n, .slice a1 s.q.g.us.length c1, .slice a2 n2 q2, .slice a3 n3 q3, .slice a4 n4 q4, .slice a5 n5 q5, .slice a6 n6 q6, .bool bb, .slice a8 n8 q8, .slice a9 n9 q9, .slice a10 n10 q10, .slice a11 n11 q11] := hv3
   clear hvs
   obtain ⟨vs, hvs⟩ : ∃ vs, vs = [Value.int .i64 s.q.g.n, .slice a1 s.q.g.us.length c1, .slice a2 n2 q2, .slice a3 n3 q3, .slice a4 n4 q4, .slice a5 n5 q5, .slice a6 n6 q6, .bool bb, .slice a8 n8 q8, .slice a9 n9 q9, .slice a10 n10 q10, .slice a11 n11 q11] := ⟨_, rfl⟩
   have hB4 : Below w.heap.size w (W3.alloc (.cells vs.toArray 43)) := hB3.alloc hB3.size _
   have hb4 : Below W3.heap.size W3 (W3.alloc (.cells vs.toArray 43)) := (bR_ _ W3).alloc (lR_ _) _
   have hh4 : (W3.alloc (.cells vs.toArray 43)).heap[W3.heap.size]? = some (.cells vs.toArray 43 (0, 0)) := World.alloc_heap_new W3 _
   obtain ⟨W4, hW4⟩ : ∃ W4, W3.alloc (.cells vs.toArray 43) = W4 := ⟨_, rfl⟩
   rw [hW4] at hB4 hb4 hh4
   rw [hvs] at hW4
   rw [hW4]
   have hv4 : ScW s W4 vs := by rw [hvs]; exact hv3'.to hb4
   rw [hvs] at hv4
   refine ⟨trivial, (callsIn_wide.2 (lv_at (rs := [.agg #[.int .i64 s.q.g.n, .slice a1 s.q.g.us.length c1, .slice a2 n2 q2, .slice a3 n3 q3, .slice a4 n4 q4, .slice a5 n5 q5, .slice a6 n6 q6, .bool bb, .slice a8 n8 q8, .slice a9 n9 q9, .slice a10 n10 q10, .slice a11 n11 q11]]) (lx_zopen hI.sp) (hG.fx (fx_below hB4)) ⟨⟨_, rfl, hv4⟩, trivial⟩)).mono ?_⟩
   rintro e W5 ⟨v8, rfl, hb5, γ'', M'', hr8⟩
   have hB5 : Below w.heap.size w W5 := hB4.trans (hb5.mono hB4.size)
   have hr8' : RdD M0 W5 (natsD (openS s)) v8 := toM0 hr8
   obtain ⟨e8, m8, k8, rfl⟩ := rd_sl0 hr8'
   have hh5 : W5.heap[W3.heap.size]? = some (.cells vs.toArray 43 (0, 0)) := (hb5.block _ (Array.getElem?_eq_some_iff.1 hh4).1).trans hh4
   have hb67 : Below W5.heap.size W5 ((W5.alloc (.cells #[.slice e8 m8 k8] 45)).alloc (.cells #[.slice none 0 0] 45)) := ((bR_ _ W5).alloc (lR_ _) _).alloc (by simp) _
   obtain ⟨W7, hW7⟩ : ∃ W7, (W5.alloc (.cells #[.slice e8 m8 k8] 45)).alloc (.cells #[.slice none 0 0] 45) = W7 := ⟨_, rfl⟩
   have hh7 : W7.heap[W3.heap.size]? = some (.cells vs.toArray 43 (0, 0)) := by rw [← hW7]; exact (hb67.block _ (Array.getElem?_eq_some_iff.1 hh5).1).trans hh5
   rw [hvs] at hh7
   obtain ⟨d0, d1, d2, d3, d4, d5, d6, d7, d8, d9, d10, d11⟩ := cells12 hh7
   obtain ⟨W6, hW6⟩ : ∃ W6, W5.alloc (.cells #[.slice e8 m8 k8] 45) = W6 := ⟨_, rfl⟩
   have hb5_6 : Below W5.heap.size W5 W6 := by rw [← hW6]; exact (bR_ _ W5).alloc (lR_ _) _
   have hs6 : W6.heap.size ≤ W5.heap.size + 1 ∧ W5.heap.size + 1 ≤ W6.heap.size := by rw [← hW6]; simp
   have hW67 : W6.alloc (.cells #[.slice none 0 0] 45) = W7 := by rw [← hW6, hW7]
   have hb6_7 : Below W6.heap.size W6 W7 := by rw [← hW67]; exact (bR_ _ W6).alloc (lR_ _) _
   have hB6 : Below w.heap.size w W6 := hB5.trans (hb5_6.mono hB5.size)
   have hG6 : Glb M0 W6 := hG.fx (fx_below hB6)
   have hv6 : ScW s W6 [Value.int .i64 s.q.g.n, .slice a1 s.q.g.us.length c1, .slice a2 n2 q2, .slice a3 n3 q3, .slice a4 n4 q4, .slice a5 n5 q5, .slice a6 n6 q6, .bool bb, .slice a8 n8 q8, .slice a9 n9 q9, .slice a10 n10 q10, .slice a11 n11 q11] := (hv4.to hb5).to hb5_6
   have bo8 : Boxed W6 W5.heap.size 45 (.slice e8 m8 k8) := by rw [← hW6]; exact Boxed.new _ _ _
   have r8 : RdD M0 W6 (natsD (openS s)) (.slice e8 m8 k8) := RdD.fx (fx_below hb5_6) hr8'
   have bo6 : Boxed W6 w.heap.size 4 (.bool false) := ((hb3.trans (((hb4.mono (lR_ _)).trans ((hb5.mono hb4.size).trans (hb5_6.mono (tL_ hb4.size hb5.size)))).mono hb3.size)).block _ bx2.lt).trans bx2
   have hol : (openS s).length ≤ 1099511627776 := by have := openS_len s; have := hI.sp.q.g.u1; omega
   have hh6 : W6.heap[W3.heap.size]? = some (.cells [Value.int .i64 s.q.g.n, .slice a1 s.q.g.us.length c1, .slice a2 n2 q2, .slice a3 n3 q3, .slice a4 n4 q4, .slice a5 n5 q5, .slice a6 n6 q6, .bool bb, .slice a8 n8 q8, .slice a9 n9 q9, .slice a10 n10 q10, .slice a11 n11 q11].toArray 43 (0, 0)) := by rw [← hvs]; exact (hb5_6.block _ (Array.getElem?_eq_some_iff.1 hh5).1).trans hh5
   gi_wp2_with (rw [hW7])
   refine ⟨trivial, open_at.mono ?_⟩
   rintro e W8 ⟨rfl, hW8⟩
   have hb7_8 : Below W7.heap.size W7 W8 := by rw [hW8]; exact (bR_ _ W7).alloc (lR_ _) _
   have hb6_8 : Below W6.heap.size W6 W8 := hb6_7.trans (hb7_8.mono hb6_7.size)
   have hg8 : W8.heap[W7.heap.size]? = some (.cells [Value.int .i64 s.q.g.n, .slice a1 s.q.g.us.length c1, .slice a2 n2 q2, .slice a3 n3 q3, .slice a4 n4 q4, .slice a5 n5 q5, .slice a6 n6 q6, .bool bb, .slice a8 n8 q8, .slice a9 n9 q9, .slice a10 n10 q10, .slice a11 n11 q11].toArray 43 (0, 0)) := by rw [hW8]; exact World.alloc_heap_new W7 _
   have bn8 : Boxed W8 W6.heap.size 45 (.slice none 0 0) := (hb7_8.block _ (by rw [← hW67]; simp)).trans (by rw [← hW67]; exact Boxed.new _ _ _)
   clear hW8
   have hlg8 : W7.heap.size < W8.heap.size := (Array.getElem?_eq_some_iff.1 hg8).1
   have hs7 : W7.heap.size ≤ W6.heap.size + 1 ∧ W6.heap.size + 1 ≤ W7.heap.size := by rw [← hW67]; simp
   obtain ⟨i0, hi, hz0, hz1, hz2⟩ := info_parts i_int
   gi_wp2_with fail
   refine wpIn_rangeFunc_ownG rfl (by decide) (gf := 28) (lb := #[.pointer (some ⟨W7.heap.size, 0, none⟩)]) rfl trivial (enters_of Tryz.func28 (by kernel_rfl) rfl)
    (openg_stops hI.sp 8 (by decide) W7.heap.size W6 W8 hG6 _ hv6 ⟨hb6_8, hg8⟩) Kg.trans (kg_b hb6_8.size hlg8) (bR_ _ _) (fun _ => rfl)
    (fun pre W => (∃ v, Boxed W W6.heap.size 45 v ∧ W.ownsRow W6.heap.size 3 1 v pre.length (pre.map encN) ∧ True) ∧ Kg W6.heap.size W7.heap.size W8 W)
    (fun _ _ _ => False)
    (OwnFrom.and (Own.from (holdsRow_own W6.heap.size W6.heap.size 45 3 1 (fun pre : List Nat => pre.length) (fun pre => pre.map encN) (fun _ _ => True)) _) (ownFrom_kg hb6_8.size hlg8 (lR_ _)))
    (fun _ _ _ _ _ hs _ _ => hs)
    ⟨⟨_, bn8, World.ownsRow_nil _ _ _ _, trivial⟩, ⟨bR_ _ _, rfl⟩⟩
    ?a1 ?assign1 ?body1 ?done1 ?stop1
   case assign1 =>
    intro l x W K hK
    gi_wp2
    exact hK
   case body1 =>
    rintro l pre x W ⟨⟨v, hv, hrow, hnil⟩, hB⟩ hlt
    have hc := hv.cell
    have hll := openS_len s
    have h433 : (43 : TypeId) ≠ 3 := by decide
    have hgne : W7.heap.size ≠ W6.heap.size := by omega
    have hul := hI.sp.q.g.u1
    have hgW : W.heap[W7.heap.size]? = some (.cells [Value.int .i64 s.q.g.n, .slice a1 s.q.g.us.length c1, .slice a2 n2 q2, .slice a3 n3 q3, .slice a4 n4 q4, .slice a5 n5 q5, .slice a6 n6 q6, .bool bb, .slice a8 n8 q8, .slice a9 n9 q9, .slice a10 n10 q10, .slice a11 n11 q11].toArray 43 (0, 0)) := hB.g.trans hg8
    have hsz : W6.heap.size ≤ W.heap.size := tL_ hb6_8.size hB.b.size
    gi_wp2_with (gi_at_builtin; refine wpListIn_append_own _ rfl _ _ 45 rfl W6.heap.size 3 i0 (.int .i64 0) 1 8 u_ints hi hz0 hz1 hz2 rfl (by decide) _ _ _ rfl (hrow.alloc _) ⟨W.heap.size, 0, none⟩ 1 1 [encN x] rfl rfl (cell_one_new _ _ _) (by simp [Value.oneCell']) (by unfold maxLen; omega) (by omega) (by simp; omega) ?_; intro v' w1 hown' hgrow _; obtain ⟨g', cap', rfl⟩ := ownsRow_succ hown'; obtain ⟨hv1, hv2, hr2, hk2, hb2⟩ := hv.appended (by decide) hrow hsz (lR_ _) hown' hgrow; have hkg := kg_app hgW h433 hgne hrow hgrow hb2; have hc1 := hv1.cell; have hf1 := hv1.frozen)
    exact ⟨hk2.from _, hkg, ⟨_, hv2, by simpa using hr2, trivial⟩, hB.trans hkg⟩
   case stop1 =>
    rintro D c pre W _ _ h _
    exact h.elim
   case done1 =>
   rintro D1 ys W9 hlD1 rfl ⟨⟨v9, bo9, hrow9, _⟩, hkg9⟩ hD1
   have r9 : RdD M0 W9 (natsD (openS s)) v9 := row_of_owns (w := W6) (fun b i h => h.elim) hrow9 hol
   obtain ⟨e9, m9, k9, rfl⟩ := rd_sl0 r9
   have hb6_9 : Below W6.heap.size W6 W9 := hb6_8.trans hkg9.b
   have hh9 : W9.heap[W3.heap.size]? = some (.cells [Value.int .i64 s.q.g.n, .slice a1 s.q.g.us.length c1, .slice a2 n2 q2, .slice a3 n3 q3, .slice a4 n4 q4, .slice a5 n5 q5, .slice a6 n6 q6, .bool bb, .slice a8 n8 q8, .slice a9 n9 q9, .slice a10 n10 q10, .slice a11 n11 q11].toArray 43 (0, 0)) := (hb6_9.block _ (Array.getElem?_eq_some_iff.1 hh6).1).trans hh6
   gi_wp2_with fail
   refine ⟨trivial, open_at.mono ?_⟩
   rintro e W10 ⟨rfl, hW10⟩
   have hb9_10 : Below W9.heap.size W9 W10 := by rw [hW10]; exact (bR_ _ W9).alloc (lR_ _) _
   have hg10 : W10.heap[W9.heap.size]? = some (.cells zVs.toArray 43 (0, 0)) := by rw [hW10]; exact World.alloc_heap_new W9 _
   clear hW10
   have hb6_10 : Below W6.heap.size W6 W10 := hb6_9.trans (hb9_10.mono hb6_9.size)
   gi_wp2_with fail
   refine wpIn_rangeFunc_ownG rfl (by decide) (gf := 28) (lb := #[.pointer (some ⟨W9.heap.size, 0, none⟩)]) rfl trivial (enters_of Tryz.func28 (by kernel_rfl) rfl)
    (openz_stops 8 (by decide) W9.heap.size W10 (hG6.fx (fx_below hb6_10)) hg10) (fun _ _ => trivial) (fun _ _ _ _ _ _ _ _ => trivial) (bR_ _ _) (fun _ => rfl)
    (fun pre W => Below W10.heap.size W10 W)
    (fun _ _ _ => False)
    (ownFrom_below (lR_ _) (lR_ _))
    (fun _ _ _ _ _ hs _ _ => hs)
    (bR_ _ _)
    ?a2 ?assign2 ?body2 ?done2 ?stop2
   case assign2 =>
    intro l x W K hK
    gi_wp2
    exact hK
   case body2 =>
    rintro l pre x W hB hlt
    exact absurd hlt (Nat.not_lt_zero _)
   case stop2 =>
    rintro D c pre W _ _ h _
    exact h.elim
   case done2 =>
   rintro D2 ys W11 hlD2 _ hb10_11 hD2
   have hb9_11 : Below W9.heap.size W9 W11 := hb9_10.trans (hb10_11.mono hb9_10.size)
   have hh11 : W11.heap[W3.heap.size]? = some (.cells [Value.int .i64 s.q.g.n, .slice a1 s.q.g.us.length c1, .slice a2 n2 q2, .slice a3 n3 q3, .slice a4 n4 q4, .slice a5 n5 q5, .slice a6 n6 q6, .bool bb, .slice a8 n8 q8, .slice a9 n9 q9, .slice a10 n10 q10, .slice a11 n11 q11].toArray 43 (0, 0)) := (hb9_11.block _ (Array.getElem?_eq_some_iff.1 hh9).1).trans hh9
   clear d0 d1 d2 d3 d4 d5 d6 d7 d8 d9 d10 d11
   obtain ⟨d0, d1, d2, d3, d4, d5, d6, d7, d8, d9, d10, d11⟩ := cells12 hh11
   gi_wp2_with fail
   refine ⟨trivial, open_at.mono ?_⟩
   rintro e W12 ⟨rfl, hW12⟩
   have hb11_12 : Below W11.heap.size W11 W12 := by rw [hW12]; exact (bR_ _ W11).alloc (lR_ _) _
   have hg12 : W12.heap[W11.heap.size]? = some (.cells [Value.int .i64 s.q.g.n, .slice a1 s.q.g.us.length c1, .slice a2 n2 q2, .slice a3 n3 q3, .slice a4 n4 q4, .slice a5 n5 q5, .slice a6 n6 q6, .bool bb, .slice a8 n8 q8, .slice a9 n9 q9, .slice a10 n10 q10, .slice a11 n11 q11].toArray 43 (0, 0)) := by rw [hW12]; exact World.alloc_heap_new W11 _
   clear hW12
   have hb6_12 : Below W6.heap.size W6 W12 := (hb6_9.trans (hb9_11.mono hb6_9.size)).trans (hb11_12.mono (tL_ hb6_9.size hb9_11.size))
   have hlg12 : W11.heap.size < W12.heap.size := (Array.getElem?_eq_some_iff.1 hg12).1
   gi_wp2_with fail
   refine wpIn_rangeFunc_ownG rfl (by decide) (gf := 28) (lb := #[.pointer (some ⟨W11.heap.size, 0, none⟩)]) rfl trivial (enters_of Tryz.func28 (by kernel_rfl) rfl)
    (openg_stops hI.sp 8 (by decide) W11.heap.size W6 W12 hG6 _ hv6 ⟨hb6_12, hg12⟩) Kg.trans (kg_b hb6_12.size hlg12) (bR_ _ _) (fun _ => rfl)
    (fun pre W => pre = [] ∧ Below W12.heap.size W12 W)
    (fun c pre W => (c = .exit 4 ∧ Below W12.heap.size W12 W) ∨ (c = .ret ∧ ∃ x, pre = [x] ∧ (openS s)[0]? ≠ some x))
    (fun _ _ _ _ hs hb hr => ⟨hs.1, ownFrom_below (β := Unit) (lR_ _) (lR_ _) () _ _ _ hs.2 hb hr⟩)
    (fun _ _ _ _ _ hs hb hr => hs.imp (fun h => ⟨h.1, ownFrom_below (β := Unit) (lR_ _) (lR_ _) () _ _ _ h.2 hb hr⟩) id)
    ⟨rfl, bR_ _ _⟩
    ?a3 ?assign3 ?body3 ?done3 ?stop3
   case assign3 =>
    intro l x W K hK
    gi_wp2
    exact hK
   case body3 =>
    rintro l pre x W ⟨rfl, hB⟩ hlt
    obtain ⟨x0, xs0, hx0⟩ : ∃ x0 xs0, openS s = x0 :: xs0 := by
     cases h : openS s with
     | nil => rw [h] at hlt; exact absurd hlt (Nat.not_lt_zero _)
     | cons a b => exact ⟨a, b, rfl⟩
    have hb6_W : Below W6.heap.size W6 W := hb6_12.trans (hB.mono hb6_12.size)
    have r8W : RdD M0 W (natsD (openS s)) (.slice e8 m8 k8) := RdD.fx (fx_below hb6_W) r8
    rw [hx0] at r8W
    obtain ⟨bb8, o8, rfl, hm8, hc8⟩ := rd_head r8W
    have bx8 : Boxed W W5.heap.size 45 (.slice (some ⟨bb8, o8, none⟩) m8 k8) := (hb6_W.block _ bo8.lt).trans bo8
    have bx6 : Boxed W w.heap.size 4 (.bool false) := (hb6_W.block _ bo6.lt).trans bo6
    have p8 := bx8.cell
    have p6 := bx6.cell
    have f6 := bx6.frozen
    by_cases hxx : (x : Int) = x0
    ·
     have hne : ((x : Int) != (x0 : Int)) = false := by simp [hxx]
     gi_wp2
     exact ⟨(KeepsOthers.refl _).from _, .inl ⟨rfl, hB⟩⟩
    ·
     have hne : ((x : Int) != (x0 : Int)) = true := by simp [hxx]
     gi_wp2
     refine ⟨(KeepsOthers.setCell _ _ _).from _, .inr ⟨rfl, x, rfl, ?_⟩⟩
     rw [hx0]
     intro e
     simp at e
     omega
   case stop3 =>
    rintro D3 c pre W13 hlD3 hpre hc hD3
    rcases hc with ⟨rfl, hB12⟩ | ⟨rfl, x, rfl, hx⟩
    ·
     skip
     have hB13 : Below W12.heap.size W12 W13 := hB12
     have hR : Below W9.heap.size W9 W13 := (hb9_10.trans (hb10_11.mono hb9_10.size)).trans ((hb11_12.mono (tL_ hb9_10.size hb10_11.size)).trans (hB13.mono (tL_ (tL_ hb9_10.size hb10_11.size) hb11_12.size)))
     have k9' : RdD M0 W13 (natsD (openS s)) (.slice e9 m9 k9) := RdD.fx (fx_below hR) r9
     have hb5_13 : Below W6.heap.size W6 W13 := hb6_9.trans (hR.mono hb6_9.size)
     have k8' : RdD M0 W13 (natsD (openS s)) (.slice e8 m8 k8) := RdD.fx (fx_below hb5_13) r8
     have bx9 : Boxed W13 W6.heap.size 45 (.slice e9 m9 k9) := (hR.block _ bo9.lt).trans bo9
     have bx8 : Boxed W13 W5.heap.size 45 (.slice e8 m8 k8) := (hb5_13.block _ bo8.lt).trans bo8
     have bx6 : Boxed W13 w.heap.size 4 (.bool false) := (hb5_13.block _ bo6.lt).trans bo6
     have p9 := bx9.cell
     have p8 := bx8.cell
     gi_wp2_with fail
     refine ⟨trivial, (callsIn_wide.2 (lv_lit (rs := [.slice e9 m9 k9, .slice e8 m8 k8]) (lx_sameints hol) (hG6.fx (fx_below hb5_13)) ⟨k9', k8', trivial⟩)).mono ?_⟩
     rintro e W14 ⟨rfl, hb14⟩
     have by6 : Boxed W14 w.heap.size 4 (.bool false) := (hb14.block _ bx6.lt).trans bx6
     have p6 := by6.cell
     have f6 := by6.frozen
     gi_wp2_with fail
     have hwl : w.heap.size < W8.heap.size := Nat.lt_of_lt_of_le bo6.lt hb6_8.size
     have s1 : ∀ {D : Nat} {W : World} {o : Obj}, W.heap[D]? = some o → w.heap.size < D → (W.setCell ⟨w.heap.size, 0, none⟩ (.bool true)).heap[D]? = some o := fun h1 h2 =>
      ((grownBy_setCell' _ _ _).block _ (Array.getElem?_eq_some_iff.1 h1).1 fun e => by injection e; omega).trans h1
     have lD1 : D1 < W9.heap.size := (Array.getElem?_eq_some_iff.1 hD1).1
     have lD2 : D2 < W11.heap.size := (Array.getElem?_eq_some_iff.1 hD2).1
     have l9 := hb9_10.size
     have l11 := hb11_12.size
     have l12 := hB13.size
     have t1 : W14.heap[D1]? = some (.deferred (some [])) := (hb14.block _ (Nat.lt_of_lt_of_le lD1 hR.size)).trans ((hR.block _ lD1).trans hD1)
     have t2 : W14.heap[D2]? = some (.deferred (some [])) := (hb14.block _ (by omega)).trans ((hB13.block _ (by omega)).trans ((hb11_12.block _ lD2).trans hD2))
     have t3 : W14.heap[D3]? = some (.deferred (some [])) := (hb14.block _ (Array.getElem?_eq_some_iff.1 hD3).1).trans hD3
     have l10 := hb10_11.size
     refine ⟨by simp, .inl ⟨D3, _, rfl, run_takeDeferred (s1 t3 (by omega)), by simp, .inl ⟨D2, _, rfl, run_takeDeferred ((World.putObj_heap_other (by omega)).trans (s1 t2 (by omega))), by simp, .inl ⟨D1, _, rfl, run_takeDeferred ((World.putObj_heap_other (by omega)).trans ((World.putObj_heap_other (by omega)).trans (s1 t1 (by omega)))), ?_⟩⟩⟩⟩
     refine ⟨_, results_cellb rfl rfl ?_, rfl, ?_⟩
     ·
      have q6 := (by6.set (.bool true))
      refine Boxed.cell (t := 4) ?_
      exact (World.putObj_heap_other (by omega)).trans ((World.putObj_heap_other (by omega)).trans ((World.putObj_heap_other (by omega)).trans q6))
     ·
      have z : ∀ {A : World} {D : Nat}, Below w.heap.size w A → w.heap.size < D → Below w.heap.size w (A.putObj D (.deferred none)) := fun h1 h2 => h1.grown (grownBy_putObj' _ _ _) h1.size fun k e => by injection e with e; omega
      exact z (z (z ((hB6.trans ((hb5_13.trans (hb14.mono hb5_13.size)).mono hB6.size)).setCell (lR_ _) _) (by omega)) (by omega)) (by omega)
    ·
     obtain ⟨t, ht⟩ := hpre
     rw [← ht] at hx
     exact absurd rfl hx
   case done3 =>
   rintro D3 ys W13 hlD3 _ ⟨_, hB12⟩ hD3
   have hB13 : Below W12.heap.size W12 W13 := hB12
   have hR : Below W9.heap.size W9 W13 := (hb9_10.trans (hb10_11.mono hb9_10.size)).trans ((hb11_12.mono (tL_ hb9_10.size hb10_11.size)).trans (hB13.mono (tL_ (tL_ hb9_10.size hb10_11.size) hb11_12.size)))
   have k9' : RdD M0 W13 (natsD (openS s)) (.slice e9 m9 k9) := RdD.fx (fx_below hR) r9
   have hb5_13 : Below W6.heap.size W6 W13 := hb6_9.trans (hR.mono hb6_9.size)
   have k8' : RdD M0 W13 (natsD (openS s)) (.slice e8 m8 k8) := RdD.fx (fx_below hb5_13) r8
   have bx9 : Boxed W13 W6.heap.size 45 (.slice e9 m9 k9) := (hR.block _ bo9.lt).trans bo9
   have bx8 : Boxed W13 W5.heap.size 45 (.slice e8 m8 k8) := (hb5_13.block _ bo8.lt).trans bo8
   have bx6 : Boxed W13 w.heap.size 4 (.bool false) := (hb5_13.block _ bo6.lt).trans bo6
   have p9 := bx9.cell
   have p8 := bx8.cell
   gi_wp2_with fail
   refine ⟨trivial, (callsIn_wide.2 (lv_lit (rs := [.slice e9 m9 k9, .slice e8 m8 k8]) (lx_sameints hol) (hG6.fx (fx_below hb5_13)) ⟨k9', k8', trivial⟩)).mono ?_⟩
   rintro e W14 ⟨rfl, hb14⟩
   have by6 : Boxed W14 w.heap.size 4 (.bool false) := (hb14.block _ bx6.lt).trans bx6
   have p6 := by6.cell
   have f6 := by6.frozen
   gi_wp2_with fail
   have hwl : w.heap.size < W8.heap.size := Nat.lt_of_lt_of_le bo6.lt hb6_8.size
   have s1 : ∀ {D : Nat} {W : World} {o : Obj}, W.heap[D]? = some o → w.heap.size < D → (W.setCell ⟨w.heap.size, 0, none⟩ (.bool true)).heap[D]? = some o := fun h1 h2 =>
    ((grownBy_setCell' _ _ _).block _ (Array.getElem?_eq_some_iff.1 h1).1 fun e => by injection e; omega).trans h1
   have lD1 : D1 < W9.heap.size := (Array.getElem?_eq_some_iff.1 hD1).1
   have lD2 : D2 < W11.heap.size := (Array.getElem?_eq_some_iff.1 hD2).1
   have l9 := hb9_10.size
   have l11 := hb11_12.size
   have l12 := hB13.size
   have t1 : W14.heap[D1]? = some (.deferred (some [])) := (hb14.block _ (Nat.lt_of_lt_of_le lD1 hR.size)).trans ((hR.block _ lD1).trans hD1)
   have t2 : W14.heap[D2]? = some (.deferred (some [])) := (hb14.block _ (by omega)).trans ((hB13.block _ (by omega)).trans ((hb11_12.block _ lD2).trans hD2))
   have t3 : W14.heap[D3]? = some (.deferred (some [])) := (hb14.block _ (Array.getElem?_eq_some_iff.1 hD3).1).trans hD3
   have l10 := hb10_11.size
   refine ⟨by simp, .inl ⟨D3, _, rfl, run_takeDeferred (s1 t3 (by omega)), by simp, .inl ⟨D2, _, rfl, run_takeDeferred ((World.putObj_heap_other (by omega)).trans (s1 t2 (by omega))), by simp, .inl ⟨D1, _, rfl, run_takeDeferred ((World.putObj_heap_other (by omega)).trans ((World.putObj_heap_other (by omega)).trans (s1 t1 (by omega)))), ?_⟩⟩⟩⟩
   refine ⟨_, results_cellb rfl rfl ?_, rfl, ?_⟩
   ·
    have q6 := (by6.set (.bool true))
    refine Boxed.cell (t := 4) ?_
    exact (World.putObj_heap_other (by omega)).trans ((World.putObj_heap_other (by omega)).trans ((World.putObj_heap_other (by omega)).trans q6))
   ·
    have z : ∀ {A : World} {D : Nat}, Below w.heap.size w A → w.heap.size < D → Below w.heap.size w (A.putObj D (.deferred none)) := fun h1 h2 => h1.grown (grownBy_putObj' _ _ _) h1.size fun k e => by injection e with e; omega
    exact z (z (z ((hB6.trans ((hb5_13.trans (hb14.mono hb5_13.size)).mono hB6.size)).setCell (lR_ _) _) (by omega)) (by omega)) (by omega)
theorem rel_none {γ : Gh} {M : MS} {w w' : World} (r : Rel γ (look []) M w) (hb : Below w.heap.size w w') : Rel γ (look []) M w' ∧ Stp γ (look []) M w γ (look []) M w' := by
 have hc : ∀ b i, b < w.heap.size → w'.cell? ⟨b, i, none⟩ = w.cell? ⟨b, i, none⟩ := fun b i hlt => by simp only [World.cell?]; rw [hb.block b hlt]
 have hfx : ∀ b i v, Fx M w b i v → Fx M w' b i v := fun b i v hf => ⟨hf.1, by rw [hc b i (World.block_lt_of_cell? _ _ hf.2)]; exact hf.2⟩
 exact ⟨⟨fun key e hk => by simp [look] at hk, r.own, r.inj, fun b i n hm => by rw [hc b i (r.dom b i hm)]; exact r.u32 b i n hm, fun b i hm => Nat.lt_of_lt_of_le (r.dom b i hm) hb.size, r.glb.fx hfx⟩,
  ⟨hb.os, hb.tape, hb.output, hb.size, hfx, fun b hlt _ => hb.block b hlt, fun b i hm _ => hm, fun key b i ho _ => ⟨key, ho⟩, fun key e he => ⟨e, he, Goes.refl e, .inl rfl⟩⟩⟩
theorem lx_openlaw {raw : List Nat} {P : List Dc} {L : List Lm} (hr : RawOk' raw) (hP : P.length ≤ 1099511627776) (hL : L.length ≤ 1099511627776) (hw : ∀ d ∈ P, DcW d) (hlw : ∀ m ∈ L, LmW m) :
  LV Tryz.prog 3 [.a (.d (bysD raw)), .a (.d (dcsD P)), .a (.d (lmsD L))] (vl (.bool true)) := by
 refine ⟨_, _, ⟨rfl, rfl⟩, fun γ M w rs hrel ha => ?_⟩
 match rs, ha with
 | [r0, r1, r2], ha =>
   refine callsIn_mono' (openlaw_in hr hP hL hw hlw w (hrel.glb.fx fun b i v k => ⟨fun h => h, k.2⟩) r0 r1 r2 (toM0 (d := bysD raw) ha.1) (toM0 (d := dcsD P) ha.2.1) (toM0 (d := lmsD L) ha.2.2.1)) ?_
   rintro e w' ⟨rfl, hb⟩
   obtain ⟨q1, q2⟩ := rel_none hrel hb
   exact ⟨_, γ, M, rfl, q1, .lit _, q2⟩
end Go.Proofs.YtikglhmabidjoaaGreat.Lf
