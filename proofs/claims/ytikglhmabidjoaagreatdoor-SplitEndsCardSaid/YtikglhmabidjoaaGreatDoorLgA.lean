/- Layer 38, lifted: valid forms, graphs, regions, queries: the program. -/
import Derived.Test.YtikglhmabidjoaaGreatDoorLgD
namespace Go.Proofs.YtikglhmabidjoaaGreatDoor.Lf
open Go.RowKit Nt
set_option linter.unusedVariables false
set_option linter.unusedSimpArgs false
set_option maxRecDepth 100000
theorem lx_lvalid {f : Af} {n : Int} (hf : AfOk f n) : LV Tryz.prog 64 [.agg f.A, vl (.int .i64 n)] (vl (.bool true)) := by
  refine LX_run (m := 0) (n0 := 0) mix Tryz.func64 rfl rfl rfl rfl ?_
  conv => whnf
  have hl := hf.len
  refine .mk Nat (fun i => ⟨[(10, vl (.int .i64 i)), (9, vl (.int .i64 (f.ts.map Tm.D).length)), (8, .a (.d (.sl 4 (f.ts.map Tm.D)))), (2, .a (.ptr 0 0)), (1, vl (.int .i64 n))], [(0, .box 39 f.A)], 1⟩) (fun i => i ≤ f.ts.length) (fun i => f.ts.length - i) 0 Wk.go (Nat.zero_le _) fun i hi => ?_
  conv => whnf
  refine bs (fun h1 => ?_) (fun h1 => ?_)
  · conv => whnf
    have h1' : i < f.ts.length := by simpa using h1
    obtain ⟨t, ht⟩ := at_some h1'
    obtain ⟨a1, a2, a3, a4⟩ := hf.lo i t ht
    refine .mk (i) (t.D) (rfl) (at_map ht) ?_
    conv => whnf
    conv => whnf
    refine bF (decide_eq_false (by omega)) ?_
    conv => whnf
    refine bF (decide_eq_false (by omega)) ?_
    conv => whnf
    refine bs (fun h2 => ?_) (fun h2 => ?_)
    · conv => whnf
      have h2' : 0 < i := by simpa using h2
      obtain ⟨u, hu⟩ := at_some (l := f.ts) (i := i - 1) (by omega)
      have a5 := hf.up (i - 1) u t hu (by rw [show i - 1 + 1 = i by omega]; exact ht)
      refine .mk (i - 1) (u.D) (by rw [wr64 (by omega) (by omega)]; omega) (at_map hu) ?_
      conv => whnf
      conv => whnf
      refine bF (decide_eq_false (by omega)) ?_
      conv => whnf
      refine .c (lx_rsign (.c a4)) ?_
      conv => whnf
      refine bF (sgn_ne a3) ?_
      conv => whnf
      refine .c (lx_okc a4) ?_
      conv => whnf
      refine .mk (by kernel_rfl) ?_
      conv => whnf
      exact ⟨i + 1, Wk.go, h1', by omega⟩
    · conv => whnf
      refine .c (lx_rsign (.c a4)) ?_
      conv => whnf
      refine bF (sgn_ne a3) ?_
      conv => whnf
      refine .c (lx_okc a4) ?_
      conv => whnf
      refine .mk (by kernel_rfl) ?_
      conv => whnf
      exact ⟨i + 1, Wk.go, h1', by omega⟩
  · conv => whnf
    refine .c (lx_okc hf.c) ?_
    conv => whnf
    exact .q ⟨rfl, rfl⟩
theorem AfOk.w {f : Af} {n m : Int} (h : AfOk f n) (e : m = n) : AfOk f m := e ▸ h
theorem lx_lvalid1 {F : FuncId} {f : Af} {n : Int} (hF : F = 163 ∨ F = 121) (hf : AfOk f n) :
    LX Tryz.prog F [.agg f.A, .a (.ptr 0 0)] [(0, .box 3 [.d (.lit (.int .i64 n))])] fun v H => v = vl (.bool false) ∧ H = [(0, .box 3 [.d (.lit (.int .i64 n))])] := by
  rcases hF with rfl | rfl
  · refine LX_run (m := 1) (n0 := 1) mix Tryz.func163 rfl rfl rfl rfl ?_
    conv => whnf
    refine .c (lx_lvalid hf) ?_
    conv => whnf
    exact ⟨_, _, ⟨rfl, rfl⟩, WkV.refl _, rfl, ⟨⟨_, rfl, wke_refl _, rfl⟩, trivial⟩, rfl⟩
  · refine LX_run (m := 1) (n0 := 1) mix Tryz.func121 rfl rfl rfl rfl ?_
    conv => whnf
    refine .c (lx_lvalid hf) ?_
    conv => whnf
    exact ⟨_, _, ⟨rfl, rfl⟩, WkV.refl _, rfl, ⟨⟨_, rfl, wke_refl _, rfl⟩, trivial⟩, rfl⟩
theorem lx_cfA {F : FuncId} {fs : List Af} {n : Int} (hl : fs.length ≤ 1000000) (he : entT Tryz.prog F = true) (hF : ∀ f ∈ fs, LX Tryz.prog F [.agg f.A, .a (.ptr 0 0)] [(0, .box 3 [.d (.lit (.int .i64 n))])] fun v H => v = vl (.bool false) ∧ H = [(0, .box 3 [.d (.lit (.int .i64 n))])]) :
    LX Tryz.prog 120 [.a (.d (afsD fs)), .a (.fn (.func F) [] [.ptr 0 0])] [(0, .box 3 [.d (.lit (.int .i64 n))])] fun v H => v = vl (.bool false) ∧ H = [(0, .box 3 [.d (.lit (.int .i64 n))])] := by
  have ix : LX Tryz.prog 166 [.a (.d (afsD fs)), .a (.fn (.func F) [] [.ptr 0 0])] [(0, .box 3 [.d (.lit (.int .i64 n))])] fun v H => v = vl (.int .i64 (-1)) ∧ H = [(0, .box 3 [.d (.lit (.int .i64 n))])] := by
    refine LX_run (m := 1) (n0 := 1) mix Tryz.func166 rfl rfl rfl rfl ?_
    conv => whnf
    refine .mk Nat (fun i => ⟨[(8, vl (.int .i64 i)), (7, vl (.int .i64 (fs.map Af.D).length)), (1, .a (.fn (.func F) [] [.ptr 0 0])), (0, .a (.d (afsD fs)))], [(0, .box 3 [.d (.lit (.int .i64 n))])], 1⟩) (fun i => i ≤ fs.length) (fun i => fs.length - i) 0 Wk.go (Nat.zero_le _) fun i hi => ?_
    conv => whnf
    refine bs (fun h1 => ?_) (fun h1 => ?_)
    · conv => whnf
      have h1' : i < fs.length := by simpa using h1
      obtain ⟨f, hf⟩ := at_some h1'
      refine .mk (i) (f.D) (rfl) (at_map hf) ?_
      conv => whnf
      refine Cn.l [0] (hF f (List.mem_of_getElem? hf)) ?_ he
      conv => whnf
      exact ⟨i + 1, Wk.go, h1', by omega⟩
    · conv => whnf
      exact ⟨_, _, ⟨rfl, rfl⟩, WkV.refl _, rfl, ⟨⟨_, rfl, wke_refl _, rfl⟩, trivial⟩, rfl⟩
  refine LX_run (m := 1) (n0 := 1) mix Tryz.func120 rfl rfl rfl rfl ?_
  conv => whnf
  refine .l [0] (ix) ?_
  conv => whnf
  exact ⟨_, _, ⟨rfl, rfl⟩, WkV.refl _, rfl, ⟨⟨_, rfl, wke_refl _, rfl⟩, trivial⟩, rfl⟩
theorem lx_gvalid0 {fs : List Af} {n : Int} (hl : fs.length ≤ 1000000) (hf : ∀ f ∈ fs, AfOk f n) : LV Tryz.prog 118 [.a (.d (afsD fs)), vl (.int .i64 n)] (vl (.bool true)) := by
  refine LX_run (m := 0) (n0 := 0) mix Tryz.func118 rfl rfl rfl rfl ?_
  conv => whnf
  refine .l [0] (lx_cfA hl rfl fun f hm => lx_lvalid1 (.inl rfl) (hf f hm)) ?_
  conv => whnf
  exact .q ⟨rfl, rfl⟩
theorem lx_gvalid {g : Gr} (hg : GrOk g) : LV Tryz.prog 62 [.agg g.A] (vl (.bool true)) := by
  obtain ⟨n1, n2, u1, o1, o2, hus, hos⟩ := hg
  refine LX_run (m := 0) (n0 := 0) mix Tryz.func62 rfl rfl rfl rfl ?_
  conv => whnf
  refine bF (decide_eq_false (by omega)) ?_
  conv => whnf
  refine bF (decide_eq_false (by omega)) ?_
  conv => whnf
  refine bF (decide_eq_false (by simp; omega)) ?_
  conv => whnf
  refine bF (decide_eq_false (by simp; omega)) ?_
  conv => whnf
  refine bF (decide_eq_false (by simp; omega)) ?_
  conv => whnf
  refine .mk Nat (fun i => ⟨[(34, vl (.int .i64 i)), (33, vl (.int .i64 (g.us.map Af.D).length)), (32, .a (.d (afsD g.us))), (1, .a (.ptr 0 0))], [(0, .box 29 g.A)], 1⟩) (fun i => i ≤ g.us.length) (fun i => g.us.length - i) 0 Wk.go (Nat.zero_le _) fun i hi => ?_
  conv => whnf
  refine bs (fun h1 => ?_) (fun h1 => ?_)
  · conv => whnf
    have h1' : i < g.us.length := by simpa using h1
    obtain ⟨f, hf⟩ := at_some h1'
    refine .mk (i) (f.D) (rfl) (at_map hf) ?_
    conv => whnf
    conv => whnf
    refine .c (lx_lvalid ((hus i f hf).w (by rw [wr64 (by omega) (by omega)]; omega))) ?_
    conv => whnf
    exact ⟨i + 1, Wk.go, h1', by omega⟩
  · conv => whnf
    refine .c (lx_gvalid0 (by omega) fun f hf => (hos f hf).w (by rw [wr64 (by simp; omega) (by simp; omega)]; simp)) ?_
    conv => whnf
    exact .q ⟨rfl, rfl⟩
theorem lx_gvars {g : Gr} (hg : GrOk g) : LV Tryz.prog 79 [.agg g.A] (vl (.int .i64 (g.n + g.us.length : Nat))) := by
  refine LX_run (m := 0) (n0 := 0) mix Tryz.func79 rfl rfl rfl rfl ?_
  conv => whnf
  refine .c (lx_gvalid hg) ?_
  conv => whnf
  have := hg.n2; have := hg.u1
  exact ⟨_, _, ⟨rfl, rfl⟩, WkV.int (by rw [wr64 (by simp; omega) (by simp; omega)]; simp), rfl, trivial, rfl⟩
theorem lx_rgvalid {r : Rg} {n : Nat} (hr : RgOk r n) : LV Tryz.prog 63 [.agg r.A, vl (.int .i64 n)] (vl (.bool true)) := by
  obtain ⟨n1, n2, hlo, hhi, rl, hle, sl, sh, hrs⟩ := hr
  refine LX_run (m := 0) (n0 := 0) mix Tryz.func63 rfl rfl rfl rfl ?_
  conv => whnf
  refine bF (decide_eq_false (by omega)) ?_
  conv => whnf
  refine bF (decide_eq_false (by omega)) ?_
  conv => whnf
  refine bF (by simp [hlo]) ?_
  conv => whnf
  refine bF (by simp [hhi]) ?_
  conv => whnf
  refine bF (decide_eq_false (by simp; omega)) ?_
  conv => whnf
  refine .mk Nat (fun i => ⟨[(36, vl (.int .i64 i)), (35, vl (.int .i64 (r.lo.map fun q => (can q).D).length)), (34, .a (.d (rqsD r.lo))), (3, .a (.ptr 1 0)), (2, .a (.ptr 0 0))], [(0, .box 32 r.A), (1, .box 3 [.d (.lit (.int .i64 n))])], 2⟩) (fun i => i ≤ n) (fun i => n - i) 0 Wk.go (Nat.zero_le _) fun i hi => ?_
  conv => whnf
  refine bs (fun h1 => ?_) (fun h1 => ?_)
  · conv => whnf
    have h1' : i < n := by simpa [hlo] using h1
    obtain ⟨a, ha⟩ := at_some (l := r.lo) (i := i) (by omega)
    obtain ⟨b, hb⟩ := at_some (l := r.hi) (i := i) (by omega)
    have za := sl a (List.mem_of_getElem? ha)
    have zb := sh b (List.mem_of_getElem? hb)
    refine .mk (i) ((can a).D) (rfl) (at_map (f := fun q => (can q).D) ha) ?_
    conv => whnf
    conv => whnf
    refine .c (lx_okc za) ?_
    conv => whnf
    refine .mk (i) ((can b).D) (rfl) (at_map (f := fun q => (can q).D) hb) ?_
    conv => whnf
    conv => whnf
    refine .c (lx_okc zb) ?_
    conv => whnf
    refine .mk (i) ((can b).D) (rfl) (at_map (f := fun q => (can q).D) hb) ?_
    conv => whnf
    conv => whnf
    refine .c (lx_rcmp (.c za) (.c zb)) ?_
    conv => whnf
    refine bF (cmp_le (hle i a b ha hb)) ?_
    conv => whnf
    refine .mk (by kernel_rfl) ?_
    conv => whnf
    exact ⟨i + 1, Wk.go, h1', by omega⟩
  · conv => whnf
    refine .l [1] (lx_cfA (by omega) rfl fun f hm => lx_lvalid1 (.inr rfl) (hrs f hm)) ?_
    conv => whnf
    exact .q ⟨rfl, rfl⟩
theorem lx_quvalid {q : Qu} (hq : QuOk q) : LV Tryz.prog 28 [.agg q.A] (vl (.bool true)) := by
  have h1 := hq.g.n2; have h2 := hq.g.u1
  refine LX_run (m := 0) (n0 := 0) mix Tryz.func28 rfl rfl rfl rfl ?_
  conv => whnf
  refine .c (lx_gvalid hq.g) ?_
  conv => whnf
  refine .c (lx_rgvalid hq.r) ?_
  conv => whnf
  refine .c (lx_lvalid (hq.goal.w (by rw [wr64 (by simp; omega) (by simp; omega)]; simp))) ?_
  conv => whnf
  exact .q ⟨rfl, rfl⟩
end Go.Proofs.YtikglhmabidjoaaGreatDoor.Lf
