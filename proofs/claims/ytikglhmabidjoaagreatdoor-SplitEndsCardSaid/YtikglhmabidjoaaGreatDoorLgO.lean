/- Layer 38, lifted: feeds and what they describe. -/
import Derived.Test.YtikglhmabidjoaaGreatDoorLgN
namespace Go.Proofs.YtikglhmabidjoaaGreatDoor.Lf
open Go.RowKit Nt
set_option linter.unusedVariables false
set_option linter.unusedSimpArgs false
set_option maxRecDepth 100000
abbrev bysD (raw : List Nat) : D := .sl 1 (raw.map fun b => [.lit (.int .u8 (b : Nat))])
abbrev fdH (raw : List Nat) (a : Nat) : List (Nat × Ent) := [(0, .box 151 [.d (bysD raw), .d (.lit (.int .i64 (a : Nat)))])]
structure RawOk (raw : List Nat) : Prop where
  len : raw.length ≤ 1000000
  by_ : ∀ b ∈ raw, b < 256
theorem lx_new2 {raw : List Nat} (h : RawOk raw) : LX Tryz.prog 54 [.a (.d (bysD raw))] [] fun v H => v = .a (.ptr 2 0) ∧ H = [(2, .box 151 [.d (bysD raw), .d (.lit (.int .i64 (0 : Nat)))])] := by
  have hl := h.len
  refine LX_run (m := 0) (n0 := 0) mix Tryz.func54 rfl rfl rfl rfl ?_
  conv => whnf
  refine .mk (raw.map fun b => [.lit (.int .u8 (b : Nat))]) rfl rfl (by simp; omega) ?_
  conv => whnf
  exact ⟨_, _, ⟨rfl, rfl⟩, WkV.refl _, rfl, ⟨⟨_, rfl, ⟨_, rfl, WkA.own, WkA.refl _, trivial⟩, rfl⟩, trivial⟩, rfl⟩
theorem all2_dd {γ γ' : Gh} {h h' : Hp} {M : MS} {w : World} : ∀ {ds : List D} {vs : List Value}, All2 (RdA γ h M w) (ds.map A.d) vs → All2 (RdA γ' h' M w) (ds.map A.d) vs
  | [], [], _ => trivial
  | d :: ds, v :: vs, k => ⟨k.1, all2_dd k.2⟩
  | [], _ :: _, k => k.elim
  | _ :: _, [], k => k.elim
theorem LC.key0 {P : Program} {F : FuncId} {args : List V} {j : Nat} {t : TypeId} {ds : List D} (hc : LC P F args [] (.a (.ptr j 0)) [(j, .box t (ds.map A.d))]) : LC P F args [] (.a (.ptr 0 0)) [(0, .box t (ds.map A.d))] := by
  intro γ M w rs hr ha
  refine Calls.mono (hc γ M w rs hr ha) ?_
  rintro e w' ⟨r, γ', M', h1, h2, h3, h4⟩
  have hl0 : ∀ key e', look [(0, Ent.box t (ds.map A.d))] key = some e' → key = 0 ∧ e' = .box t (ds.map A.d) := fun key e' h => by
    simp only [look] at h
    split at h
    · injection h with h; exact ⟨by omega, h.symm⟩
    · cases h
  have hlj : look [(j, Ent.box t (ds.map A.d))] j = some (.box t (ds.map A.d)) := by simp [look]
  have ho : ∀ key b i, Owns (fun _ => γ' j) (look [(0, Ent.box t (ds.map A.d))]) key b i → Owns γ' (look [(j, Ent.box t (ds.map A.d))]) j b i := fun key b i h => by
    unfold Owns at h
    cases h5 : look [(0, Ent.box t (ds.map A.d))] key with
    | none => rw [h5] at h; exact h.elim
    | some e' =>
      obtain ⟨rfl, rfl⟩ := hl0 key e' h5
      rw [h5] at h
      simp only [Owns, hlj]; exact h
  refine ⟨r, fun _ => γ' j, M', h1, ⟨fun key e' h => ?_, fun key b i h => h2.own j b i (ho key b i h), fun k1 k2 b l1 l2 _ _ => ?_, h2.u32, h2.dom, h2.glb⟩, ?_, ⟨h4.os, h4.tape, h4.output, h4.size, h4.fx, h4.other, h4.keep, fun key b i h hb => h4.new j b i (ho key b i h) hb, fun key e h => by simp [look] at h⟩⟩
  · obtain ⟨rfl, rfl⟩ := hl0 key e' h
    obtain ⟨g, vs, q1, q2, q3⟩ := h2.ent j _ hlj
    exact ⟨g, vs, q1, q2, all2_dd q3⟩
  · cases h5 : look [(0, Ent.box t (ds.map A.d))] k1 with
    | none => rw [h5] at l1; cases l1
    | some e1 =>
      cases h6 : look [(0, Ent.box t (ds.map A.d))] k2 with
      | none => rw [h6] at l2; cases l2
      | some e2 => rw [(hl0 _ _ h5).1, (hl0 _ _ h6).1]
  · obtain ⟨_, g, q1, q2⟩ := h3
    exact ⟨rfl, g, q1, q2⟩
theorem lx_new {raw : List Nat} (h : RawOk raw) : LX Tryz.prog 54 [.a (.d (bysD raw))] [] fun v H => v = .a (.ptr 0 0) ∧ H = fdH raw 0 := by
  obtain ⟨v, H, ⟨rfl, rfl⟩, hc⟩ := lx_new2 h
  exact ⟨_, _, ⟨rfl, rfl⟩, LC.key0 (ds := [bysD raw, .lit (.int .i64 (0 : Nat))]) hc⟩
theorem lx_next {raw : List Nat} {a n : Nat} (h : RawOk raw) (ha : a ≤ raw.length) (hn : n = 3 ∨ n = 4 ∨ n = 5 ∨ n = 9) : ∃ a' m : Nat, a' ≤ raw.length ∧ m < n ∧ LX Tryz.prog 152 [.a (.ptr 0 0), vl (.int .i64 (n : Nat))] (fdH raw a) fun v H => v = vl (.int .i64 (m : Nat)) ∧ H = fdH raw a' := by
  have hl := h.len
  rcases Nat.lt_or_ge a raw.length with h1 | h1
  · obtain ⟨b, hb⟩ := at_some h1
    have hbb := h.by_ b (List.mem_of_getElem? hb)
    refine ⟨a + 1, b % n, h1, Nat.mod_lt _ (by omega), ?_⟩
    have hw : IntKind.i64.wrap ((a : Int) + 1) = ((a + 1 : Nat) : Int) := by rw [wr64 (by omega) (by omega)]; omega
    have hw2 : IntKind.i64.wrap (((a + 1 : Nat) : Int) - 1) = (a : Int) := by rw [wr64 (by omega) (by omega)]; omega
    have hw3 : IntKind.i64.wrap (b : Int) = (b : Int) := wr64 (by omega) (by omega)
    rcases hn with rfl | rfl | rfl | rfl
    all_goals refine LX_run (m := 1) (n0 := 1) mix Tryz.func152 rfl rfl rfl rfl ?_
              conv => whnf
    all_goals refine bF (decide_eq_false (by simp; omega)) ?_
              conv => whnf
    all_goals refine .mk (by kernel_rfl) ?_
              conv => whnf
    all_goals rw [hw, hw2]
    all_goals refine .mk (a) ([.lit (.int .u8 (b : Nat))]) (rfl) (at_map hb) ?_
              conv => whnf
    all_goals conv => whnf
    all_goals refine .mk (by kernel_rfl) ?_
              conv => whnf
    all_goals exact ⟨_, _, ⟨rfl, rfl⟩, WkV.int (by rw [hw3]; rfl), rfl, ⟨⟨_, rfl, wke_refl _, rfl⟩, trivial⟩, rfl⟩
  · refine ⟨a, 0, ha, by omega, ?_⟩
    refine LX_run (m := 1) (n0 := 1) mix Tryz.func152 rfl rfl rfl rfl ?_
    conv => whnf
    refine bT (decide_eq_true (by simp; omega)) ?_
    conv => whnf
    refine .mk (by kernel_rfl) ?_
    conv => whnf
    exact ⟨_, _, ⟨rfl, rfl⟩, WkV.refl _, rfl, ⟨⟨_, rfl, wke_refl _, rfl⟩, trivial⟩, rfl⟩
theorem frac_b {z d : Int} (hz : z.natAbs ≤ 2 ^ 3) (hd : d = 1 ∨ d = 2 ∨ d = 4) : Bt 5 ((z : Rat) / (d : Rat)) := by
  have h1 : Bt 3 (z : Rat) := Bt.int hz
  have h2 : Bt 2 (d : Rat) := Bt.int (by rcases hd with rfl | rfl | rfl <;> decide)
  exact h1.div h2 (by rcases hd with rfl | rfl | rfl <;> decide)
theorem lx_number {raw : List Nat} {a : Nat} (h : RawOk raw) (ha : a ≤ raw.length) : ∃ (a' : Nat) (q : Rat), a' ≤ raw.length ∧ Bt 5 q ∧ LX Tryz.prog 153 [.a (.ptr 0 0)] (fdH raw a) fun v H => v = ratV q ∧ H = fdH raw a' := by
  obtain ⟨a1, m1, h1, h2, c1⟩ := lx_next (n := 9) h ha (by omega)
  obtain ⟨a2, m2, h3, h4, c2⟩ := lx_next (n := 4) h h1 (by omega)
  have hw : IntKind.i64.wrap ((m1 : Int) - 4) = (m1 : Int) - 4 := wr64 (by omega) (by omega)
  have hz : ((m1 : Int) - 4).natAbs ≤ 2 ^ 3 := by omega
  have go : ∀ d : Int, (d = 1 ∨ d = 2 ∨ d = 4) → ∃ (a' : Nat) (q : Rat), q = (((m1 : Int) - 4 : Int) : Rat) / (d : Rat) ∧ a' ≤ raw.length ∧ Bt 5 q ∧ a' = a2 := fun d hd => ⟨a2, _, rfl, h3, frac_b hz hd, rfl⟩
  obtain ⟨d, hd, hm⟩ : ∃ d : Int, (d = 1 ∨ d = 2 ∨ d = 4) ∧ ((m2 = 0 ∧ d = 1) ∨ (m2 = 1 ∧ d = 1) ∨ (m2 = 2 ∧ d = 2) ∨ (m2 = 3 ∧ d = 4)) := by
    obtain e | e | e | e : m2 = 0 ∨ m2 = 1 ∨ m2 = 2 ∨ m2 = 3 := by omega
    · exact ⟨1, by omega, by omega⟩
    · exact ⟨1, by omega, by omega⟩
    · exact ⟨2, by omega, by omega⟩
    · exact ⟨4, by omega, by omega⟩
  refine ⟨a2, _, h3, frac_b hz hd, ?_⟩
  obtain ⟨rfl, rfl⟩ | ⟨rfl, rfl⟩ | ⟨rfl, rfl⟩ | ⟨rfl, rfl⟩ := hm
  all_goals refine LX_run (m := 1) (n0 := 1) mix Tryz.func153 rfl rfl rfl rfl ?_
            conv => whnf
  all_goals refine .l [0] (c1) ?_
            conv => whnf
  all_goals refine .l [0] (c2) ?_
            conv => whnf
  all_goals rw [hw]
  · refine .c (lx_zfrac (z := 1) (by omega) (by omega) (by omega) (by omega) (by omega)) ?_
    conv => whnf
    exact ⟨_, _, ⟨rfl, rfl⟩, WkV.refl _, rfl, ⟨⟨_, rfl, wke_refl _, rfl⟩, trivial⟩, rfl⟩
  · refine .c (lx_zfrac (z := 1) (by omega) (by omega) (by omega) (by omega) (by omega)) ?_
    conv => whnf
    exact ⟨_, _, ⟨rfl, rfl⟩, WkV.refl _, rfl, ⟨⟨_, rfl, wke_refl _, rfl⟩, trivial⟩, rfl⟩
  · refine .c (lx_zfrac (z := 2) (by omega) (by omega) (by omega) (by omega) (by omega)) ?_
    conv => whnf
    exact ⟨_, _, ⟨rfl, rfl⟩, WkV.refl _, rfl, ⟨⟨_, rfl, wke_refl _, rfl⟩, trivial⟩, rfl⟩
  · refine .c (lx_zfrac (z := 4) (by omega) (by omega) (by omega) (by omega) (by omega)) ?_
    conv => whnf
    exact ⟨_, _, ⟨rfl, rfl⟩, WkV.refl _, rfl, ⟨⟨_, rfl, wke_refl _, rfl⟩, trivial⟩, rfl⟩
theorem TsOk.cof_ge {n : Int} {ts : List Tm} {lo w : Int} (h : TsOk n lo ts) (hw : n ≤ w) : cof ts w = 0 := by
  induction ts generalizing lo with
  | nil => rfl
  | cons t ts ih =>
    have := h.2.1
    rw [cof, if_neg (by omega), ih h.2.2.2, Rat.add_zero]
theorem FB.snoc {v : Nat} {f : Af} {q : Rat} (h : FB 5 v f) (hq : Bt 5 q) : FB 5 (v + 1 : Nat) (addS f (scaleS (varS v) q)) := by
  have h1 := (FB.var (n := ((v + 1 : Nat) : Int)) (v := v) (by omega) (by omega)).scale hq
  have e1 : ∀ w : Int, cof (scaleS (varS v) q).ts w = if (v : Int) = w then q else 0 := fun w => by
    rw [scaleS, cof_scale, varS, cof, cof, Rat.add_zero]
    split
    · exact Rat.one_mul q
    · exact Rat.zero_mul q
  refine ⟨ok_fold (fun t ht => let h := h1.tm t ht; ⟨h.1, h.2.1⟩) (h.ts.up (by omega)), fun w => ?_, ?_⟩
  · rw [addS, cof_fold, e1]
    split
    · rename_i e
      rw [h.ts.cof_ge (by omega), Rat.zero_add]; exact hq
    · rw [Rat.add_zero]; exact h.co w
  · show Bt 5 (f.c + 0 * q)
    rw [Rat.zero_mul, Rat.add_zero]; exact h.c
theorem lx_form {raw : List Nat} {a n : Nat} (h : RawOk raw) (ha : a ≤ raw.length) (hn : n ≤ 10000) : ∃ (a' : Nat) (f : Af), a' ≤ raw.length ∧ FB 5 n f ∧ LX Tryz.prog 107 [.a (.ptr 0 0), vl (.int .i64 (n : Nat))] (fdH raw a) fun v H => v = .agg f.A ∧ H = fdH raw a' := by
  suffices hh : LX Tryz.prog 107 [.a (.ptr 0 0), vl (.int .i64 (n : Nat))] (fdH raw a) fun v H => ∃ (a' : Nat) (f : Af), (a' ≤ raw.length ∧ FB 5 n f) ∧ v = .agg f.A ∧ H = fdH raw a' by
    obtain ⟨v, H', ⟨a', f, ⟨h1, h2⟩, rfl, rfl⟩, hc⟩ := hh
    exact ⟨a', f, h1, h2, _, _, ⟨rfl, rfl⟩, hc⟩
  obtain ⟨a1, q, h1, h2, c1⟩ := lx_number h ha
  refine LX_run (m := 1) (n0 := 1) mix Tryz.func107 rfl rfl rfl rfl ?_
  conv => whnf
  refine .l [0] (c1) ?_
  conv => whnf
  refine .mk (Nat × Nat × Af) (fun (i, a, f) => ⟨[(6, vl (.int .i64 (i : Nat))), (5, .a (.ptr 3 0)), (4, .a (.ptr 1 0)), (1, vl (.int .i64 (n : Nat))), (0, .a (.ptr 0 0))], [(0, .box 151 [.d (bysD raw), .d (.lit (.int .i64 (a : Nat)))]), (1, .box 39 [.d (.lit (.slice none 0 0)), .d (.lit (.bool false)), .d (.nat 0), .d (.nat 0)]), (3, .box 39 f.A)], 4⟩)
    (fun b => b.1 ≤ n ∧ b.2.1 ≤ raw.length ∧ FB 5 b.1 b.2.2) (fun b => n - b.1) (0, a1, numS q) ?_ ⟨Nat.zero_le _, h1, FB.num h2⟩ fun ⟨i, a, f⟩ hb => ?_
  · exact Wk.go (h2 := ⟨⟨_, rfl, wke_refl _, rfl⟩, ⟨_, rfl, wke_refl _, rfl⟩, ⟨_, rfl, ⟨_, rfl, WkA.nil, WkA.refl _, WkA.refl _, WkA.refl _, trivial⟩, rfl⟩, trivial⟩)
  obtain ⟨hi, ha, hf⟩ := hb
  simp only at hi ha hf
  conv => whnf
  refine bs (fun h3 => ?_) (fun h3 => ?_)
  · conv => whnf
    have h3' : i < n := by simpa using h3
    obtain ⟨a2, m, k1, k2, c2⟩ := lx_next (n := 3) h ha (by omega)
    refine .l [0] (c2) ?_
    conv => whnf
    refine bs (fun h4 => ?_) (fun h4 => ?_)
    · conv => whnf
      obtain ⟨a3, q', k3, k4, c3⟩ := lx_number h k1
      have hv := FB.var (n := ((i + 1 : Nat) : Int)) (v := i) (by omega) (by omega)
      refine .c (lx_zvar) ?_
      conv => whnf
      refine .l [0] (c3) ?_
      conv => whnf
      refine .c (lx_scale hv k4 (by omega) (by omega) (by omega)) ?_
      conv => whnf
      refine .c (lx_add (hf.up (n' := ((i + 1 : Nat) : Int)) (Nat.le_refl 5) (by omega)) (hv.scale k4) (by omega) (by omega) (by omega)) ?_
      conv => whnf
      refine .mk (by kernel_rfl) ?_
      conv => whnf
      exact ⟨(i + 1, a3, addS f (scaleS (varS i) q')), Wk.go, ⟨h3', k3, hf.snoc k4⟩, by simp only; omega⟩
    · conv => whnf
      exact ⟨(i + 1, a2, f), Wk.go, ⟨h3', k1, hf.up (Nat.le_refl 5) (by simp only; omega)⟩, by simp only; omega⟩
  · conv => whnf
    have e : i = n := by simp at h3; omega
    subst e
    exact ⟨_, _, ⟨a, f, ⟨ha, hf⟩, rfl, rfl⟩, WkV.refl _, rfl, ⟨⟨_, rfl, wke_refl _, rfl⟩, trivial⟩, rfl⟩
structure FsB (n : Int) (fs : List Af) : Prop where
  fb : ∀ f ∈ fs, FB 5 n f
structure GrB (g : Gr) : Prop where
  n1 : 1 ≤ g.n
  n2 : g.n ≤ 3
  u1 : g.us.length ≤ 4
  o1 : 1 ≤ g.os.length
  o2 : g.os.length ≤ 3
  us : ∀ (j : Nat) (f : Af), g.us[j]? = some f → FB 5 (g.n + j : Nat) f
  os : ∀ f ∈ g.os, FB 5 (g.n + g.us.length : Nat) f
theorem GrB.ok {g : Gr} (h : GrB g) : GrOk g := by
  have := h.n1; have := h.n2; have := h.u1; have := h.o1; have := h.o2
  exact ⟨by omega, by omega, by omega, by omega, by omega, fun j f hj => (h.us j f hj).ok (by decide) (by omega) (by have := at_lt hj; omega), fun f hf => (h.os f hf).ok (by decide) (by omega) (by omega)⟩
theorem lx_graph {raw : List Nat} {a : Nat} (h : RawOk raw) (ha : a ≤ raw.length) : ∃ (a' : Nat) (g : Gr), a' ≤ raw.length ∧ GrB g ∧ LX Tryz.prog 105 [.a (.ptr 0 0)] (fdH raw a) fun v H => v = .agg g.A ∧ H = fdH raw a' := by
  suffices hh : LX Tryz.prog 105 [.a (.ptr 0 0)] (fdH raw a) fun v H => ∃ (a' : Nat) (g : Gr), (a' ≤ raw.length ∧ GrB g) ∧ v = .agg g.A ∧ H = fdH raw a' by
    obtain ⟨v, H', ⟨a', f, ⟨h1, h2⟩, rfl, rfl⟩, hc⟩ := hh
    exact ⟨a', f, h1, h2, _, _, ⟨rfl, rfl⟩, hc⟩
  obtain ⟨a1, m1, k1, k2, c1⟩ := lx_next (n := 3) h ha (by omega)
  obtain ⟨a2, m2, k3, k4, c2⟩ := lx_next (n := 5) h k1 (by omega)
  obtain ⟨a3, m3, k5, k6, c3⟩ := lx_next (n := 3) h k3 (by omega)
  have hw : IntKind.i64.wrap (1 + (m1 : Int)) = ((m1 + 1 : Nat) : Int) := by rw [wr64 (by omega) (by omega)]; omega
  have hw3 : IntKind.i64.wrap (1 + (m3 : Int)) = ((m3 + 1 : Nat) : Int) := by rw [wr64 (by omega) (by omega)]; omega
  refine LX_run (m := 1) (n0 := 1) mix Tryz.func105 rfl rfl rfl rfl ?_
  conv => whnf
  refine .l [0] (c1) ?_
  conv => whnf
  rw [hw]
  refine .l [0] (c2) ?_
  conv => whnf
  refine .l [0] (c3) ?_
  conv => whnf
  rw [hw3]
  refine .mk (Nat × Nat × List Af) (fun (i, a, us) => ⟨[(6, vl (.int .i64 (i : Nat))), (5, vl (.int .i64 ((m3 + 1 : Nat) : Int))), (4, vl (.int .i64 (m2 : Nat))), (3, .a (.ptr 3 0)), (2, .a (.ptr 1 0)), (0, .a (.ptr 0 0))], [(0, .box 151 [.d (bysD raw), .d (.lit (.int .i64 (a : Nat)))]), (1, .box 29 [.d (.lit (.int .i64 0)), .d (.lit (.slice none 0 0)), .d (.lit (.slice none 0 0))]), (3, .box 29 [.d (.lit (.int .i64 ((m1 + 1 : Nat) : Int))), .own 6 4 (us.map Af.D), .d (.lit (.slice none 0 0))]), (6, .arr 39 4 (us.map Af.D).length)], 7⟩)
    (fun b => b.1 ≤ m2 ∧ b.2.1 ≤ raw.length ∧ b.2.2.length = b.1 ∧ ∀ (j : Nat) (f : Af), b.2.2[j]? = some f → FB 5 (m1 + 1 + j : Nat) f) (fun b => m2 - b.1) (0, a3, []) (Wk.trans (Wk.ownB 3 6 1 39 4 rfl rfl rfl) Wk.go) ⟨Nat.zero_le _, k5, rfl, fun j f hj => by simp at hj⟩ fun ⟨i, a, us⟩ hb => ?_
  obtain ⟨hi, ha, hu, hf⟩ := hb
  simp only at hi ha hu hf
  conv => whnf
  refine bs (fun h3 => ?_) (fun h3 => ?_)
  · conv => whnf
    have h3' : i < m2 := by simpa using h3
    have hwi : IntKind.i64.wrap (((m1 + 1 : Nat) : Int) + (i : Int)) = ((m1 + 1 + i : Nat) : Int) := by rw [wr64 (by omega) (by omega)]; omega
    obtain ⟨a4, f, k7, k8, c4⟩ := lx_form (n := m1 + 1 + i) h ha (by omega)
    rw [hwi]
    refine .l [0] (c4) ?_
    conv => whnf
    refine .mk ((us ++ [f]).map Af.D) rfl (by rw [List.map_append]; rfl) (by simp; omega) ?_
    conv => whnf
    refine .mk (by kernel_rfl) ?_
    conv => whnf
    refine ⟨(i + 1, a4, us ++ [f]), Wk.go, ⟨h3', k7, by simp [hu], fun j g hj => ?_⟩, by simp only; omega⟩
    simp only at hj
    rcases Nat.lt_trichotomy j i with h5 | h5 | h5
    · rw [List.getElem?_append_left (by omega)] at hj; exact hf j g hj
    · subst h5
      rw [← hu, List.getElem?_concat_length] at hj
      injection hj with hj; subst hj
      exact k8
    · rw [List.getElem?_eq_none (by simp; omega)] at hj; cases hj
  · conv => whnf
    have e : i = m2 := by simp at h3; omega
    subst e
    refine .mk (Nat × Nat × List Af) (fun (j, a, os) => ⟨[(7, vl (.int .i64 (j : Nat))), (5, vl (.int .i64 ((m3 + 1 : Nat) : Int))), (4, vl (.int .i64 (i : Nat))), (3, .a (.ptr 3 0)), (2, .a (.ptr 1 0)), (0, .a (.ptr 0 0))], [(0, .box 151 [.d (bysD raw), .d (.lit (.int .i64 (a : Nat)))]), (1, .box 29 [.d (.lit (.int .i64 0)), .d (.lit (.slice none 0 0)), .d (.lit (.slice none 0 0))]), (3, .box 29 [.d (.lit (.int .i64 ((m1 + 1 : Nat) : Int))), .d (afsD us), .own 7 4 (os.map Af.D)]), (7, .arr 39 4 (os.map Af.D).length)], 8⟩)
      (fun b => b.1 ≤ m3 + 1 ∧ b.2.1 ≤ raw.length ∧ b.2.2.length = b.1 ∧ ∀ f ∈ b.2.2, FB 5 (m1 + 1 + i : Nat) f) (fun b => m3 + 1 - b.1) (0, a, []) (Wk.trans (Wk.ownB 3 7 2 39 4 rfl rfl rfl) (Wk.go (h2 := ⟨⟨_, rfl, wke_refl _, rfl⟩, ⟨_, rfl, wke_refl _, rfl⟩, ⟨_, rfl, ⟨_, rfl, WkA.refl _, WkA.own, WkA.refl _, trivial⟩, rfl⟩, ⟨_, rfl, wke_refl _, rfl⟩, trivial⟩))) ⟨Nat.zero_le _, ha, rfl, fun f hj => by cases hj⟩ fun ⟨j, a', os⟩ hb => ?_
    obtain ⟨hj, ha', ho, hg⟩ := hb
    simp only at hj ha' ho hg
    conv => whnf
    refine bs (fun h4 => ?_) (fun h4 => ?_)
    · conv => whnf
      have h4' : j < m3 + 1 := by simp at h4; omega
      have hwi : IntKind.i64.wrap (((m1 + 1 : Nat) : Int) + (i : Int)) = ((m1 + 1 + i : Nat) : Int) := by rw [wr64 (by omega) (by omega)]; omega
      obtain ⟨a4, f, k7, k8, c4⟩ := lx_form (n := m1 + 1 + i) h ha' (by omega)
      rw [hwi]
      refine .l [0] (c4) ?_
      conv => whnf
      refine .mk ((os ++ [f]).map Af.D) rfl (by rw [List.map_append]; rfl) (by simp; omega) ?_
      conv => whnf
      refine .mk (by kernel_rfl) ?_
      conv => whnf
      refine ⟨(j + 1, a4, os ++ [f]), Wk.go, ⟨h4', k7, by simp [ho], fun g hj => ?_⟩, by simp only; omega⟩
      simp only at hj
      rcases List.mem_append.1 hj with h5 | h5
      · exact hg g h5
      · rw [List.mem_singleton.1 h5]; exact k8
    · conv => whnf
      have e : j = m3 + 1 := by simp at h4; omega
      exact ⟨_, _, ⟨a', ⟨m1 + 1, us, os⟩, ⟨ha', ⟨by simp only; omega, by simp only; omega, by simp only; omega, by simp only; omega, by simp only; omega, hf, fun f hf' => by rw [show ((Gr.mk (m1 + 1) us os).n + (Gr.mk (m1 + 1) us os).us.length : Nat) = m1 + 1 + i by simp only; omega]; exact hg f hf'⟩⟩, rfl, rfl⟩, WkV.agg ⟨WkA.refl _, WkA.refl _, WkA.own, trivial⟩, rfl, ⟨⟨_, rfl, wke_refl _, rfl⟩, trivial⟩, rfl⟩
structure RgB (r : Rg) (n : Nat) : Prop where
  lo : r.lo.length = n
  hi : r.hi.length = n
  rl : r.rs.length ≤ 2
  sl : ∀ q ∈ r.lo, Bt 11 q
  sh : ∀ q ∈ r.hi, Bt 11 q
  le : ∀ (i : Nat) (a b : Rat), r.lo[i]? = some a → r.hi[i]? = some b → a ≤ b
  rs : ∀ f ∈ r.rs, FB 5 n f
theorem RgB.ok {r : Rg} {n : Nat} (h : RgB r n) (h1 : 1 ≤ n) (h2 : n ≤ 3) : RgOk r n :=
  ⟨h1, by omega, h.lo, h.hi, by have := h.rl; omega, h.le, fun q hq => (h.sl q hq).mono (by decide), fun q hq => (h.sh q hq).mono (by decide), fun f hf => (h.rs f hf).ok (by decide) (by omega) (by omega)⟩
theorem abs_nn (q : Rat) : 0 ≤ mkRat q.num.natAbs q.den := by
  rw [← Rat.divInt_ofNat, Rat.divInt_nonneg_iff_of_pos_right (by have := q.den_pos; omega)]; omega
theorem lx_small {raw : List Nat} {a n : Nat} (h : RawOk raw) (ha : a ≤ raw.length) (hn : n ≤ 1000) : ∃ (a' : Nat) (r : Rg), a' ≤ raw.length ∧ RgB r n ∧ LX Tryz.prog 106 [.a (.ptr 0 0), vl (.int .i64 (n : Nat))] (fdH raw a) fun v H => v = .agg r.A ∧ H = fdH raw a' := by
  suffices hh : LX Tryz.prog 106 [.a (.ptr 0 0), vl (.int .i64 (n : Nat))] (fdH raw a) fun v H => ∃ (a' : Nat) (r : Rg), (a' ≤ raw.length ∧ RgB r n) ∧ v = .agg r.A ∧ H = fdH raw a' by
    obtain ⟨v, H', ⟨a', f, ⟨h1, h2⟩, rfl, rfl⟩, hc⟩ := hh
    exact ⟨a', f, h1, h2, _, _, ⟨rfl, rfl⟩, hc⟩
  refine LX_run (m := 1) (n0 := 1) mix Tryz.func106 rfl rfl rfl rfl ?_
  conv => whnf
  refine .mk (Nat × Nat × List Rat × List Rat) (fun (i, a, lo, hi) => ⟨[(6, vl (.int .i64 (i : Nat))), (5, .a (.ptr 2 0)), (4, .a (.ptr 1 0)), (1, vl (.int .i64 (n : Nat))), (0, .a (.ptr 0 0))], [(0, .box 151 [.d (bysD raw), .d (.lit (.int .i64 (a : Nat)))]), (1, .box 32 [.d (.lit (.slice none 0 0)), .d (.lit (.slice none 0 0)), .d (.lit (.slice none 0 0))]), (2, .box 32 [.own 3 3 (lo.map fun q => (can q).D), .own 4 3 (hi.map fun q => (can q).D), .d (.lit (.slice none 0 0))]), (3, .arr 37 3 (lo.map fun q => (can q).D).length), (4, .arr 37 3 (hi.map fun q => (can q).D).length)], 5⟩)
    (fun b => b.1 ≤ n ∧ b.2.1 ≤ raw.length ∧ RgB ⟨b.2.2.1, b.2.2.2, []⟩ b.1) (fun b => n - b.1) (0, a, [], []) (Wk.trans (Wk.ownB 2 3 0 37 3 rfl rfl rfl) (Wk.trans (Wk.ownB 2 4 1 37 3 rfl rfl rfl) Wk.go))
    ⟨Nat.zero_le _, ha, rfl, rfl, by simp, fun q h => by simp at h, fun q h => by simp at h, fun i a b h => by simp at h, fun f h => by simp at h⟩ fun ⟨i, a, lo, hi⟩ hb => ?_
  obtain ⟨hin, ha, hr⟩ := hb
  simp only at hin ha hr
  conv => whnf
  refine bs (fun h3 => ?_) (fun h3 => ?_)
  · conv => whnf
    have h3' : i < n := by simpa using h3
    obtain ⟨a1, q, k1, k2, c1⟩ := lx_number h ha
    obtain ⟨a2, q', k3, k4, c2⟩ := lx_number h k1
    have e1 := hr.lo; have e2 := hr.hi
    simp only at e1 e2
    refine .l [0] (c1) ?_
    conv => whnf
    refine .l [0] (c2) ?_
    conv => whnf
    refine .mk ((lo ++ [q]).map fun q => (can q).D) rfl (by rw [List.map_append]; rfl) (by simp; omega) ?_
    conv => whnf
    refine .c (lx_zadd (.c (k2.mono (by decide))) (.abs k4 (by decide))) ?_
    conv => whnf
    refine .mk ((hi ++ [q + mkRat q'.num.natAbs q'.den]).map fun q => (can q).D) rfl (by rw [List.map_append]; rfl) (by simp; omega) ?_
    conv => whnf
    refine .mk (by kernel_rfl) ?_
    conv => whnf
    have hsum : Bt 11 (q + mkRat q'.num.natAbs q'.den) := k2.add (bt_mk q'.den_pos (by simpa using k4.1) k4.2)
    have hnn := abs_nn q'
    generalize mkRat q'.num.natAbs q'.den = t at *
    refine ⟨(i + 1, a2, lo ++ [q], hi ++ [q + t]), Wk.go, ⟨h3', k3, ⟨by simp [e1], by simp [e2], by simp, fun x hx => ?_, fun x hx => ?_, fun j x y hx hy => ?_, fun f hf => by simp at hf⟩⟩, by simp only; omega⟩
    · rcases List.mem_append.1 hx with h5 | h5
      · exact hr.sl x h5
      · rw [List.mem_singleton.1 h5]; exact k2.mono (by decide)
    · rcases List.mem_append.1 hx with h5 | h5
      · exact hr.sh x h5
      · rw [List.mem_singleton.1 h5]; exact hsum
    · simp only at hx hy
      rcases Nat.lt_trichotomy j i with h5 | h5 | h5
      · rw [List.getElem?_append_left (by omega)] at hx hy
        exact hr.le j x y hx hy
      · subst h5
        rw [List.getElem?_append_right (by omega), e1, Nat.sub_self] at hx
        rw [List.getElem?_append_right (by omega), e2, Nat.sub_self] at hy
        simp at hx hy
        subst hx hy
        grind
      · rw [List.getElem?_eq_none (by simp; omega)] at hx; cases hx
  · conv => whnf
    have e : i = n := by simp at h3; omega
    subst e
    obtain ⟨a1, m, k1, k2, c1⟩ := lx_next (n := 3) h ha (by omega)
    refine .l [0] (c1) ?_
    conv => whnf
    refine .mk (Nat × Nat × List Af) (fun (k, a, rs) => ⟨[(9, vl (.int .i64 (k : Nat))), (5, .a (.ptr 2 0)), (4, .a (.ptr 1 0)), (1, vl (.int .i64 (i : Nat))), (0, .a (.ptr 0 0))], [(0, .box 151 [.d (bysD raw), .d (.lit (.int .i64 (a : Nat)))]), (1, .box 32 [.d (.lit (.slice none 0 0)), .d (.lit (.slice none 0 0)), .d (.lit (.slice none 0 0))]), (2, .box 32 [.d (rqsD lo), .d (rqsD hi), .own 6 4 (rs.map Af.D)]), (6, .arr 39 4 (rs.map Af.D).length)], 7⟩)
      (fun b => b.1 + b.2.2.length ≤ 2 ∧ b.2.1 ≤ raw.length ∧ ∀ f ∈ b.2.2, FB 5 i f) (fun b => b.1) (m, a1, []) (Wk.trans (Wk.ownB 2 6 2 39 4 rfl rfl rfl) (Wk.go (h2 := ⟨⟨_, rfl, wke_refl _, rfl⟩, ⟨_, rfl, wke_refl _, rfl⟩, ⟨_, rfl, ⟨_, rfl, WkA.own, WkA.own, WkA.refl _, trivial⟩, rfl⟩, ⟨_, rfl, wke_refl _, rfl⟩, trivial⟩)))
      ⟨by simp; omega, k1, fun f h => by cases h⟩ fun ⟨k, a', rs⟩ hb => ?_
    obtain ⟨hk, ha', hf⟩ := hb
    simp only at hk ha' hf
    conv => whnf
    refine bs (fun h4 => ?_) (fun h4 => ?_)
    · conv => whnf
      have h4' : 0 < k := by simpa using h4
      have hwk : IntKind.i64.wrap ((k : Int) - 1) = ((k - 1 : Nat) : Int) := by rw [wr64 (by omega) (by omega)]; omega
      obtain ⟨a2, f, k7, k8, c2⟩ := lx_form (n := i) h ha' (by omega)
      refine .l [0] (c2) ?_
      conv => whnf
      refine .mk ((rs ++ [f]).map Af.D) rfl (by rw [List.map_append]; rfl) (by simp; omega) ?_
      conv => whnf
      refine .mk (by kernel_rfl) ?_
      conv => whnf
      rw [hwk]
      refine ⟨(k - 1, a2, rs ++ [f]), Wk.go, ⟨by simp; omega, k7, fun g hj => ?_⟩, by simp only; omega⟩
      rcases List.mem_append.1 hj with h5 | h5
      · exact hf g h5
      · rw [List.mem_singleton.1 h5]; exact k8
    · conv => whnf
      exact ⟨_, _, ⟨a', ⟨lo, hi, rs⟩, ⟨ha', ⟨hr.lo, hr.hi, by simp only; omega, hr.sl, hr.sh, hr.le, hf⟩⟩, rfl, rfl⟩, WkV.agg ⟨WkA.refl _, WkA.refl _, WkA.own, trivial⟩, rfl, ⟨⟨_, rfl, wke_refl _, rfl⟩, trivial⟩, rfl⟩
structure QuB (q : Qu) : Prop where
  g : GrB q.g
  r : RgB q.r q.g.n
  goal : FB 5 (q.g.n + q.g.us.length : Nat) q.goal
theorem QuB.ok {q : Qu} (h : QuB q) : QuOk q := by
  have := h.g.u1; have := h.g.n2
  exact ⟨h.g.ok, h.r.ok h.g.n1 h.g.n2, h.goal.ok (by decide) (by omega) (by omega)⟩
theorem lx_query {raw : List Nat} {a : Nat} (h : RawOk raw) (ha : a ≤ raw.length) : ∃ (a' : Nat) (q : Qu), a' ≤ raw.length ∧ QuB q ∧ LX Tryz.prog 53 [.a (.ptr 0 0)] (fdH raw a) fun v H => v = .agg q.A ∧ H = fdH raw a' := by
  obtain ⟨a1, g, k1, k2, c1⟩ := lx_graph h ha
  obtain ⟨a2, r, k3, k4, c2⟩ := lx_small (n := g.n) h k1 (by have := k2.n2; omega)
  obtain ⟨a3, f, k5, k6, c3⟩ := lx_form (n := g.n + g.us.length) h k3 (by have := k2.n2; have := k2.u1; omega)
  have hw : IntKind.i64.wrap ((g.n : Int) + ((g.us.map Af.D).length : Int)) = ((g.n + g.us.length : Nat) : Int) := by have := k2.n2; have := k2.u1; rw [wr64 (by simp; omega) (by simp; omega)]; simp
  refine ⟨a3, ⟨g, r, f⟩, k5, ⟨k2, k4, k6⟩, ?_⟩
  refine LX_run (m := 1) (n0 := 1) mix Tryz.func53 rfl rfl rfl rfl ?_
  conv => whnf
  refine .l [0] (c1) ?_
  conv => whnf
  refine .l [0] (c2) ?_
  conv => whnf
  rw [hw]
  refine .l [0] (c3) ?_
  conv => whnf
  refine .mk (by kernel_rfl) ?_
  conv => whnf
  exact ⟨_, _, ⟨rfl, rfl⟩, WkV.refl _, rfl, ⟨⟨_, rfl, wke_refl _, rfl⟩, trivial⟩, rfl⟩
theorem lx_instance {raw : List Nat} (h : RawOk raw) : ∃ q : Qu, QuB q ∧ LV Tryz.prog 21 [.a (.d (bysD raw))] (.agg q.A) := by
  obtain ⟨a, q, _, k2, c1⟩ := lx_query h (Nat.zero_le _)
  refine ⟨q, k2, ?_⟩
  refine LX_run (m := 0) (n0 := 0) mix Tryz.func21 rfl rfl rfl rfl ?_
  conv => whnf
  refine .l [] (lx_new h) ?_
  conv => whnf
  refine .l [1] (c1) ?_
  conv => whnf
  exact .q ⟨rfl, rfl⟩
end Go.Proofs.YtikglhmabidjoaaGreatDoor.Lf
