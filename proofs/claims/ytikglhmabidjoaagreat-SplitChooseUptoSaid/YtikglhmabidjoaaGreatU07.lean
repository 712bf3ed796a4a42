/- Texts LgB LgC LgE LgF LgG LgH LgI LgJ LgK LgL LgM LgN LgO LgP LgQ LhY LgS LgT LgU LgV of this proof, in this order. -/
import Derived.Test.YtikglhmabidjoaaGreatU06
import Derived.Maps.Views
import Derived.RangeFuncBox
import Derived.RangeFuncLeaves
import Derived.Shelf.Abstract
import Derived.OwnWalkIn
import Derived.TacticsInMore
import Derived.LoopNIn
import Derived.LoopIn
import Derived.Maps.AppendAt
import Derived.Test.YtikglhmabidjoaaGreatRows
import Derived.Lib.LaidTab
import Derived.OpenShut
import Derived.ShutString
import Derived.ChangeOld
import Derived.ProofKit
import Derived.WalkKit
import Derived.LaidMore
set_option linter.unusedVariables false
set_option linter.unusedSimpArgs false
set_option maxRecDepth 100000
set_option maxHeartbeats 4000000
namespace Go.Proofs.YtikglhmabidjoaaGreat.Lf
open Go.RowKit Nt
theorem lx_zlvalid {f : Af} {n : Int} (hf : AfOk f n) : LV Tryz.prog 59 [.agg f.A, vl (.int .i64 n)] (vl (.bool true)) := by
 refine LX_run (m := 0) (n0 := 0) mix Tryz.func59 rfl rfl rfl rfl ?_
 conv => whnf
 have hl := hf.len
 refine .mk Nat (fun i => ⟨[(5, vl (.int .i64 i)), (2, .a (.ptr 0 0)), (1, vl (.int .i64 n))], [(0, .box 39 f.A)], 1⟩) (fun i => i ≤ f.ts.length) (fun i => f.ts.length - i) 0 Wk.go (zL_ _) fun i hi => ?_
 conv => whnf
 refine bs (fun h1 => ?_) (fun h1 => ?_)
 ·
  conv => whnf
  have h1' : i < f.ts.length := by simpa using h1
  obtain ⟨t, ht⟩ := at_some h1'
  obtain ⟨a1, a2, a3, a4⟩ := hf.lo i t ht
  refine .mk (i) (t.D) (rfl) (at_map ht) ?_
  conv => whnf
  conv => whnf
  refine bF (decide_eq_false (by omega)) ?_
  conv => whnf
  refine bF (decide_eq_false (by omega)) ?_
  conv => whnf
  refine bs (fun h2 => ?_) (fun h2 => ?_)
  ·
   conv => whnf
   have h2' : 0 < i := by simpa using h2
   obtain ⟨u, hu⟩ := at_some (l := f.ts) (i := i - 1) (by omega)
   have a5 := hf.up (i - 1) u t hu (by rw [show i - 1 + 1 = i by omega]; exact ht)
   refine .mk (i - 1) (u.D) (by rw [wr64 (by omega) (by omega)]; omega) (at_map hu) ?_
   conv => whnf
   conv => whnf
   refine bF (decide_eq_false (by omega)) ?_
   conv => whnf
   refine .c (lx_zsign (.c a4)) ?_
   conv => whnf
   refine bF (sgn_ne a3) ?_
   conv => whnf
   refine .c (lx_zokc a4) ?_
   conv => whnf
   refine .mk (by kernel_rfl) ?_
   conv => whnf
   exact ⟨i + 1, Wk.go, h1', by omega⟩
  ·
   conv => whnf
   refine .c (lx_zsign (.c a4)) ?_
   conv => whnf
   refine bF (sgn_ne a3) ?_
   conv => whnf
   refine .c (lx_zokc a4) ?_
   conv => whnf
   refine .mk (by kernel_rfl) ?_
   conv => whnf
   exact ⟨i + 1, Wk.go, h1', by omega⟩
 ·
  conv => whnf
  refine .c (lx_zokc hf.c) ?_
  conv => whnf
  exact .q ⟨rfl, rfl⟩
theorem lx_zlall {fs : List Af} {n : Int} (hl : fs.length ≤ 1000000) (hf : ∀ f ∈ fs, AfOk f n) : LV Tryz.prog 107 [.a (.d (afsD fs)), vl (.int .i64 n)] (vl (.bool true)) := by
 refine LX_run (m := 0) (n0 := 0) mix Tryz.func107 rfl rfl rfl rfl ?_
 conv => whnf
 refine .mk Nat (fun i => ⟨[(5, vl (.int .i64 i)), (1, vl (.int .i64 n)), (0, .a (.d (afsD fs)))], [], 0⟩) (fun i => i ≤ fs.length) (fun i => fs.length - i) 0 Wk.go (zL_ _) fun i hi => ?_
 conv => whnf
 refine bs (fun h1 => ?_) (fun h1 => ?_)
 ·
  conv => whnf
  have h1' : i < fs.length := by simpa using h1
  obtain ⟨f, h2⟩ := at_some h1'
  refine .mk (i) (f.D) (rfl) (at_map h2) ?_
  conv => whnf
  conv => whnf
  refine .c (lx_zlvalid (hf f (mG_ h2))) ?_
  conv => whnf
  exact ⟨i + 1, Wk.go, h1', by omega⟩
 ·
  conv => whnf
  exact .q ⟨rfl, rfl⟩
theorem lx_zall {l : List Rat} (hl : l.length ≤ 1000000) (hf : ∀ q ∈ l, Sz q) : LV Tryz.prog 15 [.a (.d (rqsD l))] (vl (.bool true)) := by
 refine LX_run (m := 0) (n0 := 0) mix Tryz.func15 rfl rfl rfl rfl ?_
 conv => whnf
 refine .mk Nat (fun i => ⟨[(3, vl (.int .i64 i)), (0, .a (.d (rqsD l)))], [], 0⟩) (fun i => i ≤ l.length) (fun i => l.length - i) 0 Wk.go (zL_ _) fun i hi => ?_
 conv => whnf
 refine bs (fun h1 => ?_) (fun h1 => ?_)
 ·
  conv => whnf
  have h1' : i < l.length := by simpa using h1
  obtain ⟨f, h2⟩ := at_some h1'
  refine .mk (i) ((can f).D) (rfl) (at_map (f := fun q => (can q).D) h2) ?_
  conv => whnf
  conv => whnf
  refine .c (lx_zokc (hf f (mG_ h2))) ?_
  conv => whnf
  exact ⟨i + 1, Wk.go, h1', by omega⟩
 ·
  conv => whnf
  exact .q ⟨rfl, rfl⟩
theorem lx_zgvalid {g : Gr} (hg : GrOk g) : LV Tryz.prog 57 [.agg g.A] (vl (.bool true)) := by
 obtain ⟨n1, n2, u1, o1, o2, hus, hos⟩ := hg
 refine LX_run (m := 0) (n0 := 0) mix Tryz.func57 rfl rfl rfl rfl ?_
 conv => whnf
 refine bF (decide_eq_false (by omega)) ?_
 conv => whnf
 refine bF (decide_eq_false (by omega)) ?_
 conv => whnf
 refine bF (decide_eq_false (by simp; omega)) ?_
 conv => whnf
 refine bF (decide_eq_false (by simp; omega)) ?_
 conv => whnf
 refine bF (decide_eq_false (by simp; omega)) ?_
 conv => whnf
 refine .mk Nat (fun i => ⟨[(3, vl (.int .i64 i)), (1, .a (.ptr 0 0))], [(0, .box 29 g.A)], 1⟩) (fun i => i ≤ g.us.length) (fun i => g.us.length - i) 0 Wk.go (zL_ _) fun i hi => ?_
 conv => whnf
 refine bs (fun h1 => ?_) (fun h1 => ?_)
 ·
  conv => whnf
  have h1' : i < g.us.length := by simpa using h1
  obtain ⟨f, hf⟩ := at_some h1'
  refine .mk (i) (f.D) (rfl) (at_map hf) ?_
  conv => whnf
  conv => whnf
  refine .c (lx_zlvalid ((hus i f hf).w (by rw [wr64 (by omega) (by omega)]; omega))) ?_
  conv => whnf
  refine .mk (by kernel_rfl) ?_
  conv => whnf
  exact ⟨i + 1, Wk.go, h1', by omega⟩
 ·
  conv => whnf
  refine .c (lx_zlall (by omega) fun f hf => (hos f hf).w (by rw [wr64 (by simp; omega) (by simp; omega)]; simp)) ?_
  conv => whnf
  exact .q ⟨rfl, rfl⟩
theorem lx_zgvars {g : Gr} (hg : GrOk g) : LV Tryz.prog 48 [.agg g.A] (vl (.int .i64 (g.n + g.us.length : Nat))) := by
 refine LX_run (m := 0) (n0 := 0) mix Tryz.func48 rfl rfl rfl rfl ?_
 conv => whnf
 refine .c (lx_zgvalid hg) ?_
 conv => whnf
 have := hg.n2; have := hg.u1
 exact ⟨_, _, ⟨rfl, rfl⟩, WkV.int (by rw [wr64 (by simp; omega) (by simp; omega)]; simp), rfl, trivial, rfl⟩
theorem lx_zrgvalid {r : Rg} {n : Nat} (hr : RgOk r n) : LV Tryz.prog 58 [.agg r.A, vl (.int .i64 n)] (vl (.bool true)) := by
 obtain ⟨n1, n2, hlo, hhi, rl, hle, sl, sh, hrs⟩ := hr
 refine LX_run (m := 0) (n0 := 0) mix Tryz.func58 rfl rfl rfl rfl ?_
 conv => whnf
 refine bF (decide_eq_false (by omega)) ?_
 conv => whnf
 refine bF (decide_eq_false (by omega)) ?_
 conv => whnf
 refine bF (by simp [hlo]) ?_
 conv => whnf
 refine bF (by simp [hhi]) ?_
 conv => whnf
 refine bF (decide_eq_false (by simp; omega)) ?_
 conv => whnf
 refine .c (lx_zall (by omega) sl) ?_
 conv => whnf
 refine .c (lx_zall (by omega) sh) ?_
 conv => whnf
 refine .c (lx_zlall (by omega) hrs) ?_
 conv => whnf
 refine .mk Nat (fun i => ⟨[(5, vl (.int .i64 i)), (2, .a (.ptr 0 0)), (1, vl (.int .i64 n))], [(0, .box 32 r.A)], 1⟩) (fun i => i ≤ n) (fun i => n - i) 0 Wk.go (zL_ _) fun i hi => ?_
 conv => whnf
 refine bs (fun h1 => ?_) (fun h1 => ?_)
 ·
  conv => whnf
  have h1' : i < n := by simpa using h1
  obtain ⟨a, ha⟩ := at_some (l := r.lo) (i := i) (by omega)
  obtain ⟨b, hb⟩ := at_some (l := r.hi) (i := i) (by omega)
  refine .mk (i) ((can a).D) (rfl) (at_map (f := fun q => (can q).D) ha) ?_
  conv => whnf
  conv => whnf
  refine .mk (i) ((can b).D) (rfl) (at_map (f := fun q => (can q).D) hb) ?_
  conv => whnf
  conv => whnf
  refine .c (lx_zcmp (.c (sl a (mG_ ha))) (.c (sh b (mG_ hb)))) ?_
  conv => whnf
  refine bF (cmp_le (hle i a b ha hb)) ?_
  conv => whnf
  refine .mk (by kernel_rfl) ?_
  conv => whnf
  exact ⟨i + 1, Wk.go, h1', by omega⟩
 ·
  conv => whnf
  exact .q ⟨rfl, rfl⟩
theorem lx_zquvalid {q : Qu} (hq : QuOk q) : LV Tryz.prog 26 [.agg q.A] (vl (.bool true)) := by
 refine LX_run (m := 0) (n0 := 0) mix Tryz.func26 rfl rfl rfl rfl ?_
 conv => whnf
 refine .c (lx_zgvalid hq.g) ?_
 conv => whnf
 refine .c (lx_zrgvalid hq.r) ?_
 conv => whnf
 refine .c (lx_zgvars hq.g) ?_
 conv => whnf
 refine .c (lx_zlvalid hq.goal) ?_
 conv => whnf
 refine .mk (by kernel_rfl) ?_
 conv => whnf
 exact .q ⟨rfl, rfl⟩
def Rw.z0 (x : Rw) : Bool := !x.b && ((x.n.length : Int) == 0) && ((x.d.length : Int) == 0)
def fitB (q : Qu) (d : Dc) : Bool :=
 if d.k = 1 ∨ d.k = 2 then decide (d.i ≥ 0) && decide (d.i < (q.g.us.length : Int)) && d.at_.z0
 else if d.k = 3 ∨ d.k = 4 then decide (d.i ≥ 0) && decide (d.i < (q.g.n : Int)) && d.at_.ok else false
theorem lx_nsame {xs ys : List Nat} : LV Tryz.prog 51 [.a (.d (.lm xs)), .a (.d (.lm ys))] (vl (.bool (same xs ys))) := lv_of fun γ M w rs ha => by
 obtain ⟨r, s, rfl, k, k2⟩ := all2_2 ha
 exact Calls.ret (same_any _ _ _ _ _ (rd_sl k) (rd_sl k2)) fun _ _ => Val.ov
def Rw.eq (x y : Rw) : Bool := (x.b == y.b) && same x.n y.n && same x.d y.d
theorem Rw.eq_iff {x y : Rw} : x.eq y = true ↔ x = y := by
 cases x; cases y; simp [Rw.eq, same, and_assoc]
theorem lx_zsame2 {x y : Rw} : LV Tryz.prog 21 [.agg x.A, .agg y.A] (vl (.bool (x.eq y))) := by
 obtain ⟨b, n, d⟩ := x
 obtain ⟨b', n', d'⟩ := y
 cases b <;> cases b'
 all_goals
  refine LX_run (m := 0) (n0 := 0) mix Tryz.func21 rfl rfl rfl rfl ?_
  conv => whnf
 all_goals (repeat' first | (refine bs (fun h => ?_) (fun h => ?_) <;> conv => whnf) | (refine Nc.mk (by kernel_rfl) ?_; conv => whnf) | (refine .c (lx_nsame) ?_; conv => whnf))
 all_goals exact .q ⟨by first | (simp_all [Rw.eq]; done) | (simp_all [Rw.eq]; intros; omega) | ((simp [Rw.eq]; repeat' split) <;> first | (simp_all; done) | (simp_all; intros; omega)), rfl⟩
theorem lx_zero {x : Rw} : LV Tryz.prog 115 [.agg x.A] (vl (.bool x.z0)) := by
 refine LX_run (m := 0) (n0 := 0) mix Tryz.func115 rfl rfl rfl rfl ?_
 conv => whnf
 repeat' first | (refine bs (fun h => ?_) (fun h => ?_) <;> conv => whnf) | (refine Nc.mk (by kernel_rfl) ?_; conv => whnf)
 all_goals exact .q ⟨by simp [Rw.z0, *], rfl⟩
theorem z0_eq {x : Rw} : x.eq ⟨false, [], []⟩ = x.z0 := by
 obtain ⟨b, n, d⟩ := x
 cases b <;> cases n <;> cases d <;> simp [Rw.eq, Rw.z0, same] <;> omega
theorem nat0_wk : WkA (.d (.nat 0)) (.d (.lm [])) := by
 show WkA (.d (.lm (limbs 0))) _
 rw [limbs_zero]; exact aR_ _
theorem lx_fits {q : Qu} {d : Dc} (hd : d.at_.sm) : LV Tryz.prog 66 [.agg q.A, .agg d.A] (vl (.bool (fitB q d))) := by
 refine LX_run (m := 0) (n0 := 0) mix Tryz.func66 rfl rfl rfl rfl ?_
 conv => whnf
 repeat' first | (refine bs (fun h => ?_) (fun h => ?_) <;> conv => whnf) | (refine Nc.mk (by kernel_rfl) ?_; conv => whnf) | (refine .c (lx_zero) ?_; conv => whnf) | (refine .c (lx_ok hd) ?_; conv => whnf)
 all_goals exact .q ⟨by first | (simp_all [fitB]; done) | (simp_all [fitB]; intros; omega) | ((simp [fitB]; repeat' split) <;> first | (simp_all; done) | (simp_all; intros; omega)), rfl⟩
theorem lx_Fits {q : Qu} {d : Dc} (hq : QuOk q) (hd : d.at_.sm) : LV Tryz.prog 31 [.agg q.A, .agg d.A] (vl (.bool (fitB q d))) := by
 refine LX_run (m := 0) (n0 := 0) mix Tryz.func31 rfl rfl rfl rfl ?_
 conv => whnf
 refine .c (lx_quvalid hq) ?_
 conv => whnf
 repeat' first | (refine bs (fun h => ?_) (fun h => ?_) <;> conv => whnf) | (refine Nc.mk (by kernel_rfl) ?_; conv => whnf) | (refine .c (lx_fits hd) ?_; conv => whnf)
 all_goals exact .q ⟨by first | (simp_all []; done) | (simp_all []; intros; omega) | ((simp []; repeat' split) <;> first | (simp_all; done) | (simp_all; intros; omega)), rfl⟩
theorem lx_zz0 {x : Rw} : LV Tryz.prog 21 [.agg x.A, .agg [.d (.lit (.bool false)), .d (.nat 0), .d (.nat 0)]] (vl (.bool x.z0)) := by
 rw [← z0_eq]
 exact lx_zsame2.wk ⟨vR_ _, WkV.agg ⟨aR_ _, nat0_wk, nat0_wk, trivial⟩, trivial⟩
theorem lx_zfits {q : Qu} {d : Dc} (hd : d.at_.sm) : LV Tryz.prog 54 [.agg q.A, .agg d.A] (vl (.bool (fitB q d))) := by
 refine LX_run (m := 0) (n0 := 0) mix Tryz.func54 rfl rfl rfl rfl ?_
 conv => whnf
 repeat' first | (refine bs (fun h => ?_) (fun h => ?_) <;> conv => whnf) | (refine Nc.mk (by kernel_rfl) ?_; conv => whnf) | (refine .c (lx_zz0) ?_; conv => whnf) | (refine .c (lx_zok hd) ?_; conv => whnf)
 all_goals exact .q ⟨by first | (simp_all [fitB]; done) | (simp_all [fitB]; intros; omega) | ((simp [fitB]; repeat' split) <;> first | (simp_all; done) | (simp_all; intros; omega)), rfl⟩
theorem lx_zFits {q : Qu} {d : Dc} (hq : QuOk q) (hd : d.at_.sm) : LV Tryz.prog 24 [.agg q.A, .agg d.A] (vl (.bool (fitB q d))) := by
 refine LX_run (m := 0) (n0 := 0) mix Tryz.func24 rfl rfl rfl rfl ?_
 conv => whnf
 refine .c (lx_zquvalid hq) ?_
 conv => whnf
 repeat' first | (refine bs (fun h => ?_) (fun h => ?_) <;> conv => whnf) | (refine Nc.mk (by kernel_rfl) ?_; conv => whnf) | (refine .c (lx_zfits hd) ?_; conv => whnf)
 all_goals exact .q ⟨by first | (simp_all []; done) | (simp_all []; intros; omega) | ((simp []; repeat' split) <;> first | (simp_all; done) | (simp_all; intros; omega)), rfl⟩
structure SpOk (s : Sp) : Prop where
 q : QuOk s.q
 pl : s.path.length ≤ 1000000
 pn : ∀ d ∈ s.path, d.at_.sm
 ll : s.ls.length ≤ 1000000
 ln : ∀ m ∈ s.ls, m.v.sm
 rlo : ∀ q ∈ s.q.r.lo, Bt 300000000 q
 rhi : ∀ q ∈ s.q.r.hi, Bt 300000000 q
 pb : ∀ d ∈ s.path, Bt 300000000 d.at_.q
 lb : ∀ m ∈ s.ls, Bt 300000000 m.v.q
def isD (q : Qu) (k u : Int) (d : Dc) : Bool := d.k == k && d.i == u && fitB q d
def decB (s : Sp) (k u : Int) : Bool := s.path.any (isD s.q k u)
theorem lx_dec1 {s : Sp} {k u : Int} {d : Dc} (hd : d.at_.sm) : LX Tryz.prog 155 [.agg d.A, .a (.ptr 0 0), .a (.ptr 1 0), .a (.ptr 2 0)] [(0, .box 3 [.d (.lit (.int .i64 k))]), (1, .box 3 [.d (.lit (.int .i64 u))]), (2, .box 43 s.A)]
  fun v H => v = vl (.bool (isD s.q k u d)) ∧ H = [(0, .box 3 [.d (.lit (.int .i64 k))]), (1, .box 3 [.d (.lit (.int .i64 u))]), (2, .box 43 s.A)] := by
 refine LX_run (m := 3) (n0 := 3) mix Tryz.func155 rfl rfl rfl rfl ?_
 conv => whnf
 repeat' first | (refine bs (fun h => ?_) (fun h => ?_) <;> conv => whnf) | (refine Nc.mk (by kernel_rfl) ?_; conv => whnf) | (refine .c (lx_fits hd) ?_; conv => whnf)
 all_goals exact ⟨_, _, ⟨by simp_all [isD], rfl⟩, vR_ _, rfl, ⟨⟨_, rfl, wke_refl _, rfl⟩, ⟨_, rfl, wke_refl _, rfl⟩, ⟨_, rfl, wke_refl _, rfl⟩, trivial⟩, rfl⟩
theorem any_idx {α : Type} (p : α → Bool) (xs : List α) : decide ((if xs.any p then (xs.findIdx p : Int) else -1) ≥ 0) = xs.any p := by
 cases h : xs.any p <;> simp
theorem any_true {α : Type} {p : α → Bool} {xs : List α} {i : Nat} {x : α} (hx : xs[i]? = some x) (h : p x = true) : xs.any p = true := List.any_eq_true.2 ⟨x, mG_ hx, h⟩
theorem find_at {α : Type} {p : α → Bool} {xs : List α} {i : Nat} {x : α} (hi : ∀ j y, j < i → xs[j]? = some y → p y = false) (hx : xs[i]? = some x) (h : p x = true) : xs.findIdx p = i := by
 obtain ⟨h1, h2⟩ := List.getElem?_eq_some_iff.1 hx
 refine (List.findIdx_eq h1).2 ⟨by rw [h2]; exact h, fun j hj => ?_⟩
 exact hi j _ hj (List.getElem?_eq_getElem (by omega))
theorem any_none {α : Type} {p : α → Bool} {xs : List α} (h : ∀ (j : Nat) y, xs[j]? = some y → p y = false) : xs.any p = false := by
 rw [List.any_eq_false]
 intro x hx
 obtain ⟨j, hj⟩ := List.mem_iff_getElem?.1 hx
 simp [h j x hj]
theorem lx_cfD {F : FuncId} {fs : List Dc} {p : Dc → Bool} {k u : Int} {s : Sp} (hl : fs.length ≤ 1000000) (he : entT Tryz.prog F = true) (hF : ∀ f ∈ fs, LX Tryz.prog F (.agg f.A :: [.a (.ptr 0 0), .a (.ptr 1 0), .a (.ptr 2 0)]) [(0, .box 3 [.d (.lit (.int .i64 k))]), (1, .box 3 [.d (.lit (.int .i64 u))]), (2, .box 43 s.A)] fun v H => v = vl (.bool (p f)) ∧ H = [(0, .box 3 [.d (.lit (.int .i64 k))]), (1, .box 3 [.d (.lit (.int .i64 u))]), (2, .box 43 s.A)]) :
  LX Tryz.prog 154 [.a (.d (.sl 5 (fs.map Dc.D))), .a (.fn (.func F) [] [.ptr 0 0, .ptr 1 0, .ptr 2 0])] [(0, .box 3 [.d (.lit (.int .i64 k))]), (1, .box 3 [.d (.lit (.int .i64 u))]), (2, .box 43 s.A)] fun v H => v = vl (.bool (fs.any p)) ∧ H = [(0, .box 3 [.d (.lit (.int .i64 k))]), (1, .box 3 [.d (.lit (.int .i64 u))]), (2, .box 43 s.A)] := by
 have ix : LX Tryz.prog 191 [.a (.d (.sl 5 (fs.map Dc.D))), .a (.fn (.func F) [] [.ptr 0 0, .ptr 1 0, .ptr 2 0])] [(0, .box 3 [.d (.lit (.int .i64 k))]), (1, .box 3 [.d (.lit (.int .i64 u))]), (2, .box 43 s.A)] fun v H => v = vl (.int .i64 (if fs.any p then (fs.findIdx p : Int) else -1)) ∧ H = [(0, .box 3 [.d (.lit (.int .i64 k))]), (1, .box 3 [.d (.lit (.int .i64 u))]), (2, .box 43 s.A)] := by
  refine LX_run (m := 3) (n0 := 3) mix Tryz.func191 rfl rfl rfl rfl ?_
  conv => whnf
  refine .mk Nat (fun i => ⟨[(8, vl (.int .i64 i)), (7, vl (.int .i64 (fs.map Dc.D).length)), (1, .a (.fn (.func F) [] [.ptr 0 0, .ptr 1 0, .ptr 2 0])), (0, .a (.d (.sl 5 (fs.map Dc.D))))], [(0, .box 3 [.d (.lit (.int .i64 k))]), (1, .box 3 [.d (.lit (.int .i64 u))]), (2, .box 43 s.A)], 3⟩) (fun i => i ≤ fs.length ∧ ∀ j y, j < i → fs[j]? = some y → p y = false) (fun i => fs.length - i) 0 Wk.go ⟨zL_ _, by intro j y h; omega⟩ fun i hi => ?_
  obtain ⟨hi, hall⟩ := hi
  conv => whnf
  refine bs (fun h1 => ?_) (fun h1 => ?_)
  ·
   conv => whnf
   have h1' : i < fs.length := by simpa using h1
   obtain ⟨f, hf⟩ := at_some h1'
   refine .mk (i) (f.D) (rfl) (at_map hf) ?_
   conv => whnf
   conv => whnf
   refine Cn.l [0, 1, 2] (hF f (mG_ hf)) ?_ he
   conv => whnf
   refine bs (fun h2 => ?_) (fun h2 => ?_)
   ·
    conv => whnf
    exact ⟨_, _, ⟨by rw [if_pos (any_true hf h2), find_at hall hf h2], rfl⟩, vR_ _, rfl, ⟨⟨_, rfl, wke_refl _, rfl⟩, ⟨_, rfl, wke_refl _, rfl⟩, ⟨_, rfl, wke_refl _, rfl⟩, trivial⟩, rfl⟩
   ·
    conv => whnf
    refine ⟨i + 1, Wk.go, ⟨h1', fun j y hj hy => ?_⟩, by omega⟩
    rcases Nat.lt_succ_iff_lt_or_eq.1 hj with h3 | h3
    ·
     exact hall j y h3 hy
    ·
     subst h3; rw [hf] at hy; injection hy with hy; rw [← hy]; exact h2
  ·
   conv => whnf
   exact ⟨_, _, ⟨by rw [if_neg]; rw [any_none fun j y hy => hall j y (by have := at_lt hy; simp at h1; omega) hy]; decide, rfl⟩, vR_ _, rfl, ⟨⟨_, rfl, wke_refl _, rfl⟩, ⟨_, rfl, wke_refl _, rfl⟩, ⟨_, rfl, wke_refl _, rfl⟩, trivial⟩, rfl⟩
 refine LX_run (m := 3) (n0 := 3) mix Tryz.func154 rfl rfl rfl rfl ?_
 conv => whnf
 refine .l [0, 1, 2] ix ?_
 conv => whnf
 refine bs (fun h => ?_) (fun h => ?_)
 ·
  conv => whnf
  exact ⟨_, _, ⟨by rw [any_idx] at h; rw [h], rfl⟩, vR_ _, rfl, ⟨⟨_, rfl, wke_refl _, rfl⟩, ⟨_, rfl, wke_refl _, rfl⟩, ⟨_, rfl, wke_refl _, rfl⟩, trivial⟩, rfl⟩
 ·
  conv => whnf
  exact ⟨_, _, ⟨by rw [any_idx] at h; rw [h], rfl⟩, vR_ _, rfl, ⟨⟨_, rfl, wke_refl _, rfl⟩, ⟨_, rfl, wke_refl _, rfl⟩, ⟨_, rfl, wke_refl _, rfl⟩, trivial⟩, rfl⟩
theorem lx_decided {s : Sp} {k u : Int} (hs : SpOk s) : LV Tryz.prog 114 [.agg s.A, vl (.int .i64 k), vl (.int .i64 u)] (vl (.bool (decB s k u))) := by
 refine LX_run (m := 0) (n0 := 0) mix Tryz.func114 rfl rfl rfl rfl ?_
 conv => whnf
 refine .l [1, 2, 0] (lx_cfD hs.pl rfl fun d hd => lx_dec1 (hs.pn d hd)) ?_
 conv => whnf
 repeat' first | (refine bs (fun h => ?_) (fun h => ?_) <;> conv => whnf) | (refine Nc.mk (by kernel_rfl) ?_; conv => whnf)
 all_goals exact .q ⟨by simp_all [decB], rfl⟩
theorem lx_zdecided {s : Sp} {k u : Int} (hs : SpOk s) : LV Tryz.prog 109 [.agg s.A, vl (.int .i64 k), vl (.int .i64 u)] (vl (.bool (decB s k u))) := by
 have hl := hs.pl
 refine LX_run (m := 0) (n0 := 0) mix Tryz.func109 rfl rfl rfl rfl ?_
 conv => whnf
 refine .mk Nat (fun i => ⟨[(7, vl (.int .i64 i)), (3, .a (.ptr 0 0)), (2, vl (.int .i64 u)), (1, vl (.int .i64 k))], [(0, .box 43 s.A)], 1⟩) (fun i => i ≤ s.path.length ∧ ∀ j y, j < i → s.path[j]? = some y → isD s.q k u y = false) (fun i => s.path.length - i) 0 Wk.go ⟨zL_ _, by intro j y h; omega⟩ fun i hi => ?_
 obtain ⟨hi, hall⟩ := hi
 conv => whnf
 refine bs (fun h1 => ?_) (fun h1 => ?_)
 ·
  conv => whnf
  have h1' : i < s.path.length := by simpa using h1
  obtain ⟨f, hf⟩ := at_some h1'
  repeat' first | (refine bs (fun h => ?_) (fun h => ?_) <;> conv => whnf) | (refine Nc.mk (by kernel_rfl) ?_; conv => whnf) | (refine .c (lx_zfits (hs.pn f (mG_ hf))) ?_; conv => whnf) | (refine .mk i f.D rfl (at_map hf) ?_; conv => whnf)
  all_goals first
   | exact .q ⟨by rw [decB, any_true hf (by simp_all [isD])], rfl⟩
   | (refine ⟨i + 1, Wk.go, ⟨h1', fun j y hj hy => ?_⟩, by omega⟩
      rcases Nat.lt_succ_iff_lt_or_eq.1 hj with h3 | h3
      ·
       exact hall j y h3 hy
      ·
       subst h3; rw [hf] at hy; injection hy with hy; rw [← hy]; simp_all [isD])
 ·
  conv => whnf
  exact .q ⟨by rw [decB, any_none fun j y hy => hall j y (by have := at_lt hy; simp at h1; omega) hy], rfl⟩
def atL (ls : List Lm) (z : Int) : Lm := (ls[(z - 1).toNat]?).getD ⟨0, false, ⟨false, [], []⟩, []⟩
abbrev vAt (ls : List Lm) (z : Int) : Rat := (atL ls z).v.q
theorem atL_some {ls : List Lm} {z : Int} (h : 0 < z) (h2 : z ≤ ls.length) : ls[(z - 1).toNat]? = some (atL ls z) := by
 unfold atL
 obtain ⟨x, hx⟩ := at_some (l := ls) (i := (z - 1).toNat) (by omega)
 rw [hx]; rfl
theorem atL_sm {ls : List Lm} (h : ∀ m ∈ ls, m.v.sm) (z : Int) : (atL ls z).v.sm := by
 unfold atL
 cases hx : ls[(z - 1).toNat]? with
 | none => exact ⟨zL_ _, zL_ _⟩
 | some x => exact h x (mG_ hx)
def bstep (ls : List Lm) (u : Int) (i : Nat) (m : Lm) (a : Int × Int) : Int × Int :=
 if m.u = u then (if m.up = true then (if a.2 = 0 ∨ cmpQ m.v.q (vAt ls a.2) < 0 then (a.1, (i : Int) + 1) else a)
  else (if a.1 = 0 ∨ cmpQ m.v.q (vAt ls a.1) > 0 then ((i : Int) + 1, a.2) else a)) else a
def bestTo (ls : List Lm) (u : Int) : Nat → Int × Int
 | 0 => (0, 0)
 | i + 1 => match ls[i]? with
   | some m => bstep ls u i m (bestTo ls u i)
   | none => bestTo ls u i
def bestS (s : Sp) (u : Int) : Int × Int := bestTo s.ls u s.ls.length
theorem bestTo_succ {ls : List Lm} {u : Int} {i : Nat} {m : Lm} (h : ls[i]? = some m) : bestTo ls u (i + 1) = bstep ls u i m (bestTo ls u i) := by
 simp only [bestTo, h]
theorem bestTo_le (ls : List Lm) (u : Int) : ∀ i : Nat, 0 ≤ (bestTo ls u i).1 ∧ (bestTo ls u i).1 ≤ i ∧ 0 ≤ (bestTo ls u i).2 ∧ (bestTo ls u i).2 ≤ i
 | 0 => by simp [bestTo]
 | i + 1 => by
   have ih := bestTo_le ls u i
   simp only [bestTo]
   split
   ·
    unfold bstep
    repeat' split
    all_goals first | omega | (simp only; omega)
   ·
    omega
theorem pos_of {z : Int} (h : (z == 0) = false) (h0 : 0 ≤ z) : 0 < z := by
 have : z ≠ 0 := by simpa using h
 omega
theorem lx_best {s : Sp} {u : Int} (hs : SpOk s) : LV Tryz.prog 64 [.agg s.A, vl (.int .i64 u)] (.tup [.s (.d (.lit (.int .i64 (bestS s u).1))), .s (.d (.lit (.int .i64 (bestS s u).2)))]) := by
 have hl := hs.ll
 refine LX_run (m := 0) (n0 := 0) mix Tryz.func64 rfl rfl rfl rfl ?_
 conv => whnf
 refine .mk (Nat × Int × Int) (fun (i, lo, hi) => ⟨[(13, vl (.int .i64 i)), (12, vl (.int .i64 (s.ls.map Lm.D).length)), (11, .a (.d (lmsD s.ls))), (7, vl (.int .i64 hi)), (6, vl (.int .i64 lo)), (2, .a (.ptr 0 0)), (1, vl (.int .i64 u))], [(0, .box 43 s.A)], 1⟩)
  (fun b => b.1 ≤ s.ls.length ∧ bestTo s.ls u b.1 = b.2) (fun b => s.ls.length - b.1) (0, 0, 0) Wk.go ⟨zL_ _, rfl⟩ fun ⟨i, lo, hi⟩ hb => ?_
 obtain ⟨hi1, hb⟩ := hb
 have hle := bestTo_le s.ls u i
 rw [hb] at hle
 obtain ⟨k1, k2, k3, k4⟩ := hle
 simp only at k1 k2 k3 k4 hi1
 conv => whnf
 refine bs (fun h1 => ?_) (fun h1 => ?_)
 ·
  conv => whnf
  have h1' : i < s.ls.length := by simpa using h1
  obtain ⟨m, hm⟩ := at_some h1'
  have hsm := hs.ln m (mG_ hm)
  obtain ⟨mu, up, mv, mp⟩ := m
  cases up
  all_goals refine .mk i (Lm.D ⟨_, _, _, _⟩) (by first | rfl | (rw [wr64 (by omega) (by omega)]; omega)) (at_map hm) ?_
  all_goals conv => whnf
  all_goals (repeat' first | (refine bs (fun h => ?_) (fun h => ?_) <;> conv => whnf) | (refine Nc.mk (by kernel_rfl) ?_; conv => whnf) | (refine .c (lx_rcmp hsm.rq (atL_sm hs.ln _).rq) ?_; conv => whnf) | (refine .mk (hi - 1).toNat (atL s.ls hi).D (by rw [wr64 (by omega) (by omega)]; have := pos_of ‹(hi == 0) = false› k3; omega) (at_map (atL_some (pos_of ‹(hi == 0) = false› k3) (by omega))) ?_; conv => whnf) | (refine .mk (lo - 1).toNat (atL s.ls lo).D (by rw [wr64 (by omega) (by omega)]; have := pos_of ‹(lo == 0) = false› k1; omega) (at_map (atL_some (pos_of ‹(lo == 0) = false› k1) (by omega))) ?_; conv => whnf))
  all_goals refine ⟨(i + 1, _, _), Wk.go, ⟨h1', ?_⟩, by simp only; omega⟩
  all_goals (have hw := wr64 (x := (i : Int) + 1) (by omega) (by omega); rw [bestTo_succ hm, hb]; first | (simp_all [bstep, vAt]; done) | (simp_all [bstep, vAt]; intros; omega))
 ·
  conv => whnf
  have e : i = s.ls.length := by simp at h1; omega
  subst e
  exact .q ⟨by rw [bestS, hb], rfl⟩
theorem lx_zbest {s : Sp} {u : Int} (hs : SpOk s) : LV Tryz.prog 108 [.agg s.A, vl (.int .i64 u)] (.tup [.s (.d (.lit (.int .i64 (bestS s u).1))), .s (.d (.lit (.int .i64 (bestS s u).2)))]) := by
 have hl := hs.ll
 refine LX_run (m := 0) (n0 := 0) mix Tryz.func108 rfl rfl rfl rfl ?_
 conv => whnf
 refine .mk (Nat × Int × Int) (fun (i, lo, hi) => ⟨[(8, vl (.int .i64 ((i : Int) + 1))), (7, vl (.int .i64 hi)), (6, vl (.int .i64 lo)), (2, .a (.ptr 0 0)), (1, vl (.int .i64 u))], [(0, .box 43 s.A)], 1⟩)
  (fun b => b.1 ≤ s.ls.length ∧ bestTo s.ls u b.1 = b.2) (fun b => s.ls.length - b.1) (0, 0, 0) Wk.go ⟨zL_ _, rfl⟩ fun ⟨i, lo, hi⟩ hb => ?_
 obtain ⟨hi1, hb⟩ := hb
 have hle := bestTo_le s.ls u i
 rw [hb] at hle
 obtain ⟨k1, k2, k3, k4⟩ := hle
 simp only at k1 k2 k3 k4 hi1
 conv => whnf
 refine bs (fun h1 => ?_) (fun h1 => ?_)
 ·
  conv => whnf
  have h1' : i < s.ls.length := by simp at h1; omega
  obtain ⟨m, hm⟩ := at_some h1'
  have hsm := hs.ln m (mG_ hm)
  obtain ⟨mu, up, mv, mp⟩ := m
  cases up
  all_goals refine .mk i (Lm.D ⟨_, _, _, _⟩) (by first | rfl | (rw [wr64 (by omega) (by omega)]; omega)) (at_map hm) ?_
  all_goals conv => whnf
  all_goals (repeat' first | (refine bs (fun h => ?_) (fun h => ?_) <;> conv => whnf) | (refine Nc.mk (by kernel_rfl) ?_; conv => whnf) | (refine .c (lx_zcmp hsm.rq (atL_sm hs.ln _).rq) ?_; conv => whnf) | (refine .mk (hi - 1).toNat (atL s.ls hi).D (by rw [wr64 (by omega) (by omega)]; have := pos_of ‹(hi == 0) = false› k3; omega) (at_map (atL_some (pos_of ‹(hi == 0) = false› k3) (by omega))) ?_; conv => whnf) | (refine .mk (lo - 1).toNat (atL s.ls lo).D (by rw [wr64 (by omega) (by omega)]; have := pos_of ‹(lo == 0) = false› k1; omega) (at_map (atL_some (pos_of ‹(lo == 0) = false› k1) (by omega))) ?_; conv => whnf))
  all_goals refine ⟨(i + 1, _, _), Wk.go, ⟨h1', ?_⟩, by simp only; omega⟩
  all_goals (have hw := wr64 (x := (i : Int) + 1) (by omega) (by omega); rw [bestTo_succ hm, hb]; first | (simp_all [bstep, vAt]; done) | (simp_all [bstep, vAt]; intros; omega))
 ·
  conv => whnf
  have e : i = s.ls.length := by simp at h1; omega
  subst e
  exact .q ⟨by rw [bestS, hb], rfl⟩
def onS (s : Sp) (u lo : Int) : Bool := decB s 1 u || decide (lo > 0) && decide ((vAt s.ls lo).num.sign ≥ 0)
def offS (s : Sp) (u hi : Int) : Bool := decB s 2 u || decide (hi > 0) && decide ((vAt s.ls hi).num.sign ≤ 0)
def phaseS (s : Sp) (u : Int) : Int :=
 if decide (u < 0) || decide (u ≥ (s.q.g.us.length : Int)) then 0 else if onS s u (bestS s u).1 then 1 else if offS s u (bestS s u).2 then 2 else 0
theorem lx_phases {s : Sp} {u lo hi : Int} (hs : SpOk s) (h1 : lo ≤ s.ls.length) (h2 : hi ≤ s.ls.length) :
  LV Tryz.prog 65 [.agg s.A, vl (.int .i64 u), vl (.int .i64 lo), vl (.int .i64 hi)] (.tup [.s (.d (.lit (.bool (onS s u lo)))), .s (.d (.lit (.bool (offS s u hi))))]) := by
 have hl := hs.ll
 refine LX_run (m := 0) (n0 := 0) mix Tryz.func65 rfl rfl rfl rfl ?_
 conv => whnf
 repeat' first | (refine bs (fun h => ?_) (fun h => ?_) <;> conv => whnf) | (refine Nc.mk (by kernel_rfl) ?_; conv => whnf) | (refine .c (lx_decided hs) ?_; conv => whnf) | (refine .c (lx_rsign (atL_sm hs.ln _).rq) ?_; conv => whnf) | (refine .mk (hi - 1).toNat (atL s.ls hi).D (by have := of_decide_eq_true ‹decide (hi > 0) = true›; rw [wr64 (by omega) (by omega)]; omega) (at_map (atL_some (of_decide_eq_true ‹decide (hi > 0) = true›) (by omega))) ?_; conv => whnf) | (refine .mk (lo - 1).toNat (atL s.ls lo).D (by have := of_decide_eq_true ‹decide (lo > 0) = true›; rw [wr64 (by omega) (by omega)]; omega) (at_map (atL_some (of_decide_eq_true ‹decide (lo > 0) = true›) (by omega))) ?_; conv => whnf)
 all_goals exact .q ⟨by first | (simp_all [onS, offS]; done) | (simp_all [onS, offS]; intros; omega) | ((simp [onS, offS]; repeat' split) <;> first | (simp_all; done) | (simp_all; intros; omega)), rfl⟩
theorem bestS_le (s : Sp) (u : Int) : (bestS s u).1 ≤ s.ls.length ∧ (bestS s u).2 ≤ s.ls.length := let h := bestTo_le s.ls u s.ls.length; ⟨h.2.1, h.2.2.2⟩
theorem lx_phase {s : Sp} {u : Int} (hs : SpOk s) : LV Tryz.prog 30 [.agg s.A, vl (.int .i64 u)] (vl (.int .i64 (phaseS s u))) := by
 have hl := hs.ll
 refine LX_run (m := 0) (n0 := 0) mix Tryz.func30 rfl rfl rfl rfl ?_
 conv => whnf
 refine .c (lx_quvalid hs.q) ?_
 conv => whnf
 repeat' first | (refine bs (fun h => ?_) (fun h => ?_) <;> conv => whnf) | (refine Nc.mk (by kernel_rfl) ?_; conv => whnf) | (refine .c (lx_best hs) ?_; conv => whnf) | (refine .c (lx_phases hs (bestS_le s u).1 (bestS_le s u).2) ?_; conv => whnf)
 all_goals exact .q ⟨by first | (simp_all [phaseS]; done) | (simp_all [phaseS]; intros; omega) | ((simp [phaseS]; repeat' split) <;> first | (simp_all; done) | (simp_all; intros; omega)), rfl⟩
theorem lx_zphases {s : Sp} {u : Int} (hs : SpOk s) : LV Tryz.prog 60 [.agg s.A, vl (.int .i64 u)] (.tup [.s (.d (.lit (.bool (onS s u (bestS s u).1)))), .s (.d (.lit (.bool (offS s u (bestS s u).2))))]) := by
 have hl := hs.ll
 obtain ⟨b1, b2⟩ := bestS_le s u
 refine LX_run (m := 0) (n0 := 0) mix Tryz.func60 rfl rfl rfl rfl ?_
 conv => whnf
 refine .c (lx_zbest hs) ?_
 conv => whnf
 generalize (bestS s u).1 = lo at *
 generalize (bestS s u).2 = hi at *
 repeat' first | (refine bs (fun h => ?_) (fun h => ?_) <;> conv => whnf) | (refine Nc.mk (by kernel_rfl) ?_; conv => whnf) | (refine .c (lx_zdecided hs) ?_; conv => whnf) | (refine .c (lx_zsign (atL_sm hs.ln _).rq) ?_; conv => whnf) | (refine .mk (hi - 1).toNat (atL s.ls hi).D (by have := of_decide_eq_true ‹decide (hi > 0) = true›; rw [wr64 (by omega) (by omega)]; omega) (at_map (atL_some (of_decide_eq_true ‹decide (hi > 0) = true›) (by omega))) ?_; conv => whnf) | (refine .mk (lo - 1).toNat (atL s.ls lo).D (by have := of_decide_eq_true ‹decide (lo > 0) = true›; rw [wr64 (by omega) (by omega)]; omega) (at_map (atL_some (of_decide_eq_true ‹decide (lo > 0) = true›) (by omega))) ?_; conv => whnf)
 all_goals exact .q ⟨by first | (simp_all [onS, offS]; done) | (simp_all [onS, offS]; intros; omega) | ((simp [onS, offS]; repeat' split) <;> first | (simp_all; done) | (simp_all; intros; omega)), rfl⟩
theorem lx_zphase {s : Sp} {u : Int} (hs : SpOk s) : LV Tryz.prog 27 [.agg s.A, vl (.int .i64 u)] (vl (.int .i64 (phaseS s u))) := by
 have hl := hs.ll
 refine LX_run (m := 0) (n0 := 0) mix Tryz.func27 rfl rfl rfl rfl ?_
 conv => whnf
 refine .c (lx_zquvalid hs.q) ?_
 conv => whnf
 repeat' first | (refine bs (fun h => ?_) (fun h => ?_) <;> conv => whnf) | (refine Nc.mk (by kernel_rfl) ?_; conv => whnf) | (refine .c (lx_zphases hs) ?_; conv => whnf)
 all_goals exact .q ⟨by first | (simp_all [phaseS]; done) | (simp_all [phaseS]; intros; omega) | ((simp [phaseS]; repeat' split) <;> first | (simp_all; done) | (simp_all; intros; omega)), rfl⟩
open Go.Maps
def isU (d : Dc) : Bool := decide (d.k = 1 ∨ d.k = 2)
def valB (d : Dc) : Bool :=
 if d.k = 1 ∨ d.k = 2 then decide (d.i ≥ 0) && decide (d.i < 1024) && d.at_.z0
 else if d.k = 3 ∨ d.k = 4 then decide (d.i ≥ 0) && decide (d.i < 256) && d.at_.ok else false
theorem lx_zdvalid {d : Dc} (hd : d.at_.sm) : LV Tryz.prog 55 [.agg d.A] (vl (.bool (valB d))) := by
 refine LX_run (m := 0) (n0 := 0) mix Tryz.func55 rfl rfl rfl rfl ?_
 conv => whnf
 repeat' first | (refine bs (fun h => ?_) (fun h => ?_) <;> conv => whnf) | (refine Nc.mk (by kernel_rfl) ?_; conv => whnf) | (refine .c (lx_zz0) ?_; conv => whnf) | (refine .c (lx_zok hd) ?_; conv => whnf)
 all_goals exact .q ⟨by first | (simp_all [valB]; done) | (simp_all [valB]; intros; omega) | ((simp [valB]; repeat' split) <;> first | (simp_all; done) | (simp_all; intros; omega)), rfl⟩
def seenB (l : List Dc) (x : Int) : Bool := l.any fun d => isU d && d.i == x
def twTo (l : List Dc) : Nat → Bool
 | 0 => false
 | i + 1 => twTo l i || (match l[i]? with
   | some d => isU d && seenB (l.take i) d.i
   | none => false)
def twB (l : List Dc) : Bool := twTo l l.length
theorem twTo_mono {l : List Dc} {i j : Nat} (h : twTo l i = true) (hij : i ≤ j) : twTo l j = true := by
 induction j with
 | zero => rw [show i = 0 by omega] at h; exact h
 | succ j ih =>
   rcases Nat.lt_or_ge j i with h1 | h1
   ·
    rw [show j + 1 = i by omega]; exact h
   ·
    simp [twTo, ih h1]
theorem twB_of {l : List Dc} {i : Nat} {d : Dc} (hd : l[i]? = some d) (h1 : isU d = true) (h2 : seenB (l.take i) d.i = true) : twB l = true :=
 twTo_mono (i := i + 1) (by simp [twTo, hd, h1, h2]) (at_lt hd)
theorem lx_zlit {d : Dc} : LV Tryz.prog 106 [.agg d.A] (.tup [.g [.d (.lit (.int .i64 (if isU d then d.i else 0))), .d (.lit (.bool (isU d && d.k == 1)))], .s (.d (.lit (.bool (isU d))))]) := by
 refine LX_run (m := 0) (n0 := 0) mix Tryz.func106 rfl rfl rfl rfl ?_
 conv => whnf
 repeat' first | (refine bs (fun h => ?_) (fun h => ?_) <;> conv => whnf) | (refine Nc.mk (by kernel_rfl) ?_; conv => whnf)
 all_goals exact .q ⟨by first | (simp_all [isU]; done) | (simp_all [isU]; intros; omega) | ((simp [isU]; repeat' split) <;> first | (simp_all; done) | (simp_all; intros; omega)), rfl⟩
theorem twTo_in {l : List Dc} {i : Nat} {a : Dc} (ha : l[i]? = some a) (h0 : twTo l i = false) (h : ∀ (j : Nat) y, j < i → l[j]? = some y → (isU a && isU y && a.i == y.i) = false) : twTo l (i + 1) = false := by
 simp only [twTo, h0, ha, Bool.false_or]
 cases hu : isU a
 ·
  rfl
 ·
  rw [Bool.true_and, seenB]
  refine any_none fun j y hy => ?_
  rw [List.getElem?_take] at hy
  split at hy
  ·
   have := h j y (by assumption) hy
   cases hy' : isU y
   ·
    rfl
   ·
    simp [hu, hy'] at this ⊢; exact fun e => this e.symm
  ·
   cases hy
theorem lx_ztwice {l : List Dc} (hl : l.length ≤ 1000000) : LV Tryz.prog 56 [.a (.d (dcsD l))] (vl (.bool (twB l))) := by
 refine LX_run (m := 0) (n0 := 0) mix Tryz.func56 rfl rfl rfl rfl ?_
 conv => whnf
 refine .mk Nat (fun i => ⟨[(3, vl (.int .i64 i)), (0, .a (.d (dcsD l)))], [], 0⟩) (fun i => i ≤ l.length ∧ twTo l i = false) (fun i => l.length - i) 0 Wk.go ⟨zL_ _, rfl⟩ fun i hb => ?_
 obtain ⟨hi, ht⟩ := hb
 conv => whnf
 refine bs (fun h1 => ?_) (fun h1 => ?_)
 ·
  conv => whnf
  have h1' : i < l.length := by simpa using h1
  obtain ⟨a, ha⟩ := at_some h1'
  refine .mk (i) (a.D) (rfl) (at_map ha) ?_
  conv => whnf
  conv => whnf
  refine .c (lx_zlit) ?_
  conv => whnf
  have key : ∀ b, isU a = b → Bool.rec (motive := fun _ => Prop) False False b → False := fun b _ => by cases b <;> exact id
  clear key
  refine bs (fun hu => ?_) (fun hu => ?_)
  all_goals
   conv => whnf
   refine .mk Nat (fun j => ⟨[(6, vl (.int .i64 j)), (5, vl (.bool (isU a))), (4, .a (.ptr 0 0)), (3, vl (.int .i64 i)), (0, .a (.d (dcsD l)))], [(0, .box 150 [.d (.lit (.int .i64 (if isU a then a.i else 0))), .d (.lit (.bool (isU a && a.k == 1)))])], 1⟩) (fun j => j ≤ i ∧ ∀ (k : Nat) y, k < j → l[k]? = some y → (isU a && isU y && a.i == y.i) = false) (fun j => i - j) 0 (by rw [hu]; exact Wk.go) ⟨zL_ _, by intro k y h; omega⟩ fun j hb => ?_
   rw [hu]
   obtain ⟨hj, hall⟩ := hb
   conv => whnf
   refine bs (fun h2 => ?_) (fun h2 => ?_)
   ·
    conv => whnf
    have h2' : j < i := by simpa using h2
    obtain ⟨c, hc⟩ := at_some (l := l) (i := j) (by omega)
    refine .mk j c.D rfl (at_map hc) ?_
    conv => whnf
    refine .c lx_zlit ?_
    conv => whnf
    repeat' first | (refine bs (fun h => ?_) (fun h => ?_) <;> conv => whnf)
    all_goals first
     | exact .q ⟨by rw [twB_of ha hu (List.any_eq_true.2 ⟨c, by rw [List.mem_take_iff_getElem]; obtain ⟨q1, q2⟩ := List.getElem?_eq_some_iff.1 hc; exact ⟨j, by omega, q2⟩, by simp_all⟩)], rfl⟩
     | (refine ⟨j + 1, Wk.go, ⟨h2', fun k y hk hy => ?_⟩, by omega⟩
        rcases Nat.lt_succ_iff_lt_or_eq.1 hk with h3 | h3
        ·
         have := hall k y h3 hy; rw [hu] at this; exact this
        ·
         subst h3; rw [hc] at hy; injection hy with hy; rw [← hy]; simp_all)
   ·
    conv => whnf
    have e : j = i := by simp at h2; omega
    subst e
    exact ⟨j + 1, Wk.go, ⟨h1', twTo_in ha ht hall⟩, by omega⟩
 ·
  conv => whnf
  have e : i = l.length := by simp at h1; omega
  subst e
  exact .q ⟨by rw [twB, ht], rfl⟩
def extE (l : List Dc) (d : Dc) : Int := if (l ++ [d]).any (fun d => !valB d) then 1 else if twB (l ++ [d]) then 9 else if decide (((l ++ [d]).length : Int) > 2048) then 8 else 0
def extP (l : List Dc) (d : Dc) : List Dc := if extE l d = 0 then l ++ [d] else []
theorem map_snoc {l : List Dc} {d : Dc} : (l ++ [d]).map Dc.D = l.map Dc.D ++ [d.D] := by simp
theorem lx_zextend {l : List Dc} {d : Dc} (hl : l.length ≤ 900000) (hs : ∀ d ∈ l, d.at_.sm) (hd : d.at_.sm) :
  LV Tryz.prog 25 [.a (.d (dcsD l)), .agg d.A] (.tup [.s (.d (dcsD (extP l d))), .s (.d (.lit (.int .i64 (extE l d))))]) := by
 have hs' : ∀ x ∈ l ++ [d], x.at_.sm := fun x hx => by
  rcases List.mem_append.1 hx with h | h
  ·
   exact hs x h
  ·
   rw [List.mem_singleton.1 h]; exact hd
 have hln : ((l ++ [d]).map Dc.D).length = l.length + 1 := by simp
 have hlb : (l ++ [d]).length = l.length + 1 := by simp
 refine LX_run (m := 0) (n0 := 0) mix Tryz.func25 rfl rfl rfl rfl ?_
 conv => whnf
 refine .mk (l.map Dc.D) rfl rfl (by simp; omega) ?_
 conv => whnf
 refine .mk ((l ++ [d]).map Dc.D) rfl map_snoc (by omega) ?_
 conv => whnf
 refine .mk (by kernel_rfl) ?_
 conv => whnf
 refine .mk Nat (fun i => ⟨[(7, vl (.int .i64 i)), (6, .a (.d (dcsD (l ++ [d]))))], [], 2⟩) (fun i => i ≤ (l ++ [d]).length ∧ ∀ j y, j < i → (l ++ [d])[j]? = some y → (!valB y) = false) (fun i => (l ++ [d]).length - i) 0 (Wk.of ⟨⟨_, rfl, vR_ _, rfl⟩, ⟨_, rfl, WkV.of WkA.own, rfl⟩, trivial⟩ trivial rfl) ⟨zL_ _, by intro j y h; omega⟩ fun i hi => ?_
 obtain ⟨hi, hall⟩ := hi
 conv => whnf
 refine bs (fun h0 => ?_) (fun h0 => ?_)
 ·
  conv => whnf
  have h1' : i < (l ++ [d]).length := by simp at h0 ⊢; omega
  obtain ⟨f, hf⟩ := at_some h1'
  refine .mk (i) (f.D) (rfl) (at_map hf) ?_
  conv => whnf
  conv => whnf
  refine .c (lx_zdvalid (hs' f (mG_ hf))) ?_
  conv => whnf
  refine bs (fun hv => ?_) (fun hv => ?_)
  ·
   conv => whnf
   refine ⟨i + 1, Wk.go, ⟨h1', fun j y hj hy => ?_⟩, by omega⟩
   rcases Nat.lt_succ_iff_lt_or_eq.1 hj with h3 | h3
   ·
    exact hall j y h3 hy
   ·
    subst h3; rw [hf] at hy; injection hy with hy; rw [← hy, hv]; rfl
  ·
   conv => whnf
   have h1 : (l ++ [d]).any (fun d => !valB d) = true := any_true hf (by rw [hv]; rfl)
   exact .mk _ [] ⟨rfl, rfl⟩ (WkV.tup ⟨by rw [extP, extE, if_pos h1]; exact WkA.nil, by rw [extE, if_pos h1]; exact aR_ _, trivial⟩) rfl trivial rfl
 ·
  conv => whnf
  have h1 : (l ++ [d]).any (fun d => !valB d) = false := any_none fun j y hy => hall j y (by have := at_lt hy; simp at h0 this ⊢; omega) hy
  refine .c (lx_ztwice (l := l ++ [d]) (by simp; omega)) ?_
  conv => whnf
  have n1 : ¬ (l ++ [d]).any (fun d => !valB d) = true := by rw [h1]; exact Bool.false_ne_true
  refine bs (fun h2 => ?_) (fun h2 => ?_)
  ·
   conv => whnf
   exact .mk _ [] ⟨rfl, rfl⟩ (WkV.tup ⟨by rw [extP, extE, if_neg n1, if_pos h2]; exact WkA.nil, by rw [extE, if_neg n1, if_pos h2]; exact aR_ _, trivial⟩) rfl trivial rfl
  ·
   conv => whnf
   have n2 : ¬ twB (l ++ [d]) = true := by rw [h2]; exact Bool.false_ne_true
   refine bs (fun h3 => ?_) (fun h3 => ?_)
   ·
    conv => whnf
    have h3' : decide (((l ++ [d]).length : Int) > 2048) = true := by rw [List.length_map] at h3; exact h3
    exact .mk _ [] ⟨rfl, rfl⟩ (WkV.tup ⟨by rw [extP, extE, if_neg n1, if_neg n2, if_pos h3']; exact WkA.nil, by rw [extE, if_neg n1, if_neg n2, if_pos h3']; exact aR_ _, trivial⟩) rfl trivial rfl
   ·
    conv => whnf
    have h3' : ¬ decide (((l ++ [d]).length : Int) > 2048) = true := by rw [List.length_map] at h3; rw [h3]; exact Bool.false_ne_true
    exact .mk _ [] ⟨rfl, rfl⟩ (WkV.tup ⟨by rw [extP, extE, if_neg n1, if_neg n2, if_neg h3']; exact aR_ _, by rw [extE, if_neg n1, if_neg n2, if_neg h3']; exact aR_ _, trivial⟩) rfl trivial rfl
theorem can0 : can 0 = ⟨false, limbs 0, limbs 0⟩ := by
 have h1 : decide ((0 : Rat) < 0) = false := by decide
 show Rw.mk _ _ _ = _
 rw [h1]; rfl
structure Iv where
 lo : Rat
 hi : Rat
abbrev Iv.D (v : Iv) : List D := [.lit (.bool (decide (v.lo < 0))), .lm (limbs v.lo.num.natAbs), .lm (limbs (dn v.lo)), .lit (.bool (decide (v.hi < 0))), .lm (limbs v.hi.num.natAbs), .lm (limbs (dn v.hi))]
abbrev Iv.A (v : Iv) : List A := [.d (.lit (.bool (decide (v.lo < 0)))), .d (.lm (limbs v.lo.num.natAbs)), .d (.lm (limbs (dn v.lo))), .d (.lit (.bool (decide (v.hi < 0)))), .d (.lm (limbs v.hi.num.natAbs)), .d (.lm (limbs (dn v.hi)))]
abbrev ivsD (l : List Iv) : D := .sl 6 (l.map Iv.D)
def rmax (a b : Rat) : Rat := if b ≤ a then a else b
def rmin (a b : Rat) : Rat := if a ≤ b then a else b
def ivs0 (r : Rg) : List Iv := List.zipWith Iv.mk r.lo r.hi
def bxStep (q : Qu) (l : List Iv) (d : Dc) : List Iv :=
 if fitB q d = true then
  match l[d.i.toNat]? with
  | some v => if d.k = 3 then l.set d.i.toNat ⟨rmax v.lo d.at_.q, v.hi⟩ else if d.k = 4 then l.set d.i.toNat ⟨v.lo, rmin v.hi d.at_.q⟩ else l
  | none => l
 else l
def bxS (s : Sp) : List Iv := s.path.foldl (bxStep s.q) (ivs0 s.q.r)
def ivBad (v : Iv) : Bool := decide (cmpQ v.lo v.hi > 0)
def bxE (s : Sp) : Int := if (bxS s).any ivBad = true then 10 else 0
def bxR (s : Sp) : List Iv := if (bxS s).any ivBad = true then [] else bxS s
def IvB (l : List Iv) : Prop := ∀ v ∈ l, Bt 300000000 v.lo ∧ Bt 300000000 v.hi
theorem bxStep_len (q : Qu) (l : List Iv) (d : Dc) : (bxStep q l d).length = l.length := by
 unfold bxStep; repeat' split
 all_goals simp
theorem rmax_b {a b : Rat} {k : Nat} (h : Bt k a) (h' : Bt k b) : Bt k (rmax a b) := by unfold rmax; split <;> assumption
theorem rmin_b {a b : Rat} {k : Nat} (h : Bt k a) (h' : Bt k b) : Bt k (rmin a b) := by unfold rmin; split <;> assumption
theorem bxStep_b {q : Qu} {l : List Iv} {d : Dc} (h : IvB l) (hd : Bt 300000000 d.at_.q) : IvB (bxStep q l d) := by
 unfold bxStep
 split
 ·
  split
  ·
   rename_i v hv
   have hb := h v (mG_ hv)
   repeat' split
   ·
    intro x hx
    rcases List.mem_or_eq_of_mem_set hx with h1 | rfl
    ·
     exact h x h1
    ·
     exact ⟨rmax_b hb.1 hd, hb.2⟩
   ·
    intro x hx
    rcases List.mem_or_eq_of_mem_set hx with h1 | rfl
    ·
     exact h x h1
    ·
     exact ⟨hb.1, rmin_b hb.2 hd⟩
   ·
    exact h
  ·
   exact h
 ·
  exact h
theorem ivs0_len {r : Rg} {n : Nat} (h : RgOk r n) : (ivs0 r).length = n := by simp [ivs0, h.lo, h.hi]
theorem ivs0_b {s : Sp} (hs : SpOk s) : IvB (ivs0 s.q.r) := by
 intro v hv
 obtain ⟨i, hi⟩ := List.mem_iff_getElem?.1 hv
 rw [ivs0, List.getElem?_zipWith_eq_some] at hi
 obtain ⟨a, b, h1, h2, rfl⟩ := hi
 exact ⟨hs.rlo a (mG_ h1), hs.rhi b (mG_ h2)⟩
theorem bx_b {s : Sp} (hs : SpOk s) (i : Nat) : IvB ((s.path.take i).foldl (bxStep s.q) (ivs0 s.q.r)) := by
 have : ∀ (l : List Dc), (∀ d ∈ l, Bt 300000000 d.at_.q) → ∀ a, IvB a → IvB (l.foldl (bxStep s.q) a) := by
  intro l
  induction l with
  | nil => intro _ a h; exact h
  | cons d l ih => intro h a ha; exact ih (fun d hd => h d (by simp [hd])) _ (bxStep_b ha (h d (by simp)))
 exact this _ (fun d hd => hs.pb d (List.mem_of_mem_take hd)) _ (ivs0_b hs)
theorem bx_len {s : Sp} (hs : SpOk s) (l : List Dc) : (l.foldl (bxStep s.q) (ivs0 s.q.r)).length = s.q.g.n := by
 have : ∀ (l : List Dc) a, (l.foldl (bxStep s.q) a).length = a.length := by
  intro l
  induction l with
  | nil => intro a; rfl
  | cons d l ih => intro a; rw [List.foldl_cons, ih, bxStep_len]
 rw [this, ivs0_len hs.q.r]
theorem lx_box1 {v : Iv} (h1 : Sz v.lo) (h2 : Sz v.hi) : LV Tryz.prog 35 [.agg v.A] (vl (.bool (ivBad v))) := by
 refine LX_run (m := 0) (n0 := 0) mix Tryz.func35 rfl rfl rfl rfl ?_
 conv => whnf
 refine .c (lx_rcmp (.c h1) (.c h2)) ?_
 conv => whnf
 repeat' first | (refine bs (fun h => ?_) (fun h => ?_) <;> conv => whnf) | (refine Nc.mk (by kernel_rfl) ?_; conv => whnf)
 all_goals exact .q ⟨by first | (simp_all [ivBad]; done) | (simp_all [ivBad]; intros; omega) | ((simp [ivBad]; repeat' split) <;> first | (simp_all; done) | (simp_all; intros; omega)), rfl⟩
theorem lx_cfV {F : FuncId} {fs : List Iv} {p : Iv → Bool} (hl : fs.length ≤ 1000000) (he : entT Tryz.prog F = true) (hF : ∀ f ∈ fs, LV Tryz.prog F [.agg f.A] (vl (.bool (p f)))) :
  LV Tryz.prog 34 [.a (.d (.sl 6 (fs.map Iv.D))), .a (.fn (.func F) [] [])] (vl (.bool (fs.any p))) := by
 have ix : LV Tryz.prog 68 [.a (.d (.sl 6 (fs.map Iv.D))), .a (.fn (.func F) [] [])] (vl (.int .i64 (if fs.any p then (fs.findIdx p : Int) else -1))) := by
  refine LX_run (m := 0) (n0 := 0) mix Tryz.func68 rfl rfl rfl rfl ?_
  conv => whnf
  refine .mk Nat (fun i => ⟨[(8, vl (.int .i64 i)), (7, vl (.int .i64 (fs.map Iv.D).length)), (1, .a (.fn (.func F) [] [])), (0, .a (.d (.sl 6 (fs.map Iv.D))))], [], 0⟩) (fun i => i ≤ fs.length ∧ ∀ j y, j < i → fs[j]? = some y → p y = false) (fun i => fs.length - i) 0 Wk.go ⟨zL_ _, by intro j y h; omega⟩ fun i hi => ?_
  obtain ⟨hi, hall⟩ := hi
  conv => whnf
  refine bs (fun h1 => ?_) (fun h1 => ?_)
  ·
   conv => whnf
   have h1' : i < fs.length := by simpa using h1
   obtain ⟨f, hf⟩ := at_some h1'
   refine .mk (i) (f.D) (rfl) (at_map hf) ?_
   conv => whnf
   conv => whnf
   refine Cn.c (hF f (mG_ hf)) ?_ he
   conv => whnf
   refine bs (fun h2 => ?_) (fun h2 => ?_)
   ·
    conv => whnf
    exact ⟨_, _, ⟨by rw [if_pos (any_true hf h2), find_at hall hf h2], rfl⟩, vR_ _, rfl, trivial, rfl⟩
   ·
    conv => whnf
    refine ⟨i + 1, Wk.go, ⟨h1', fun j y hj hy => ?_⟩, by omega⟩
    rcases Nat.lt_succ_iff_lt_or_eq.1 hj with h3 | h3
    ·
     exact hall j y h3 hy
    ·
     subst h3; rw [hf] at hy; injection hy with hy; rw [← hy]; exact h2
  ·
   conv => whnf
   exact ⟨_, _, ⟨by rw [if_neg]; rw [any_none fun j y hy => hall j y (by have := at_lt hy; simp at h1; omega) hy]; decide, rfl⟩, vR_ _, rfl, trivial, rfl⟩
 refine LX_run (m := 0) (n0 := 0) mix Tryz.func34 rfl rfl rfl rfl ?_
 conv => whnf
 refine .c ix ?_
 conv => whnf
 refine bs (fun h => ?_) (fun h => ?_)
 ·
  conv => whnf
  exact ⟨_, _, ⟨by rw [any_idx] at h; rw [h], rfl⟩, vR_ _, rfl, trivial, rfl⟩
 ·
  conv => whnf
  exact ⟨_, _, ⟨by rw [any_idx] at h; rw [h], rfl⟩, vR_ _, rfl, trivial, rfl⟩
abbrev zRow : List D := [.lit (.bool false), .nat 0, .nat 0, .lit (.bool false), .nat 0, .nat 0]
theorem set_next {α : Type} {A : List α} {z x : α} {m i : Nat} (hA : A.length = i) : (A ++ List.replicate (m + 1) z).set i x = (A ++ [x]) ++ List.replicate m z := by
 rw [List.set_append_right _ _ (by omega), show i - A.length = 0 by omega, List.replicate_succ, sZ, List.append_assoc]; rfl
theorem fits_ix {q : Qu} {d : Dc} (h : fitB q d = true) (hk : d.k = 3 ∨ d.k = 4) : 0 ≤ d.i ∧ d.i < q.g.n := by
 unfold fitB at h
 rw [if_neg (by omega), if_pos hk] at h
 simp at h; omega
theorem lx_box {s : Sp} (hs : SpOk s) : LV Tryz.prog 12 [.agg s.A] (.tup [.s (.d (ivsD (bxR s))), .s (.d (.lit (.int .i64 (bxE s))))]) := by
 have hlo := hs.q.r.lo; have hhi := hs.q.r.hi; have hn2 := hs.q.r.n2; have hpl := hs.pl
 have hll : (s.q.r.lo.map fun q => (can q).D).length = s.q.g.n := by rw [List.length_map, hlo]
 have h0 := ivs0_len hs.q.r
 refine LX_run (m := 0) (n0 := 0) mix Tryz.func12 rfl rfl rfl rfl ?_
 conv => whnf
 refine .c (lx_quvalid hs.q) ?_
 conv => whnf
 refine .mk s.q.g.n (by rw [hll]) (by rw [hll]) (by omega) ?_
 conv => whnf
 refine .mk Nat (fun i => ⟨[(22, vl (.int .i64 i)), (21, vl (.int .i64 s.q.g.n)), (5, .a (.tab 2 s.q.g.n)), (4, .a (.ptr 1 0)), (1, .a (.ptr 0 0))], [(0, .box 43 s.A), (1, .box 32 s.q.r.A), (2, .tab 82 6 (((ivs0 s.q.r).take i).map Iv.D ++ List.replicate (s.q.g.n - i) zRow))], 3⟩) (fun i => i ≤ s.q.g.n) (fun i => s.q.g.n - i) 0 Wk.go (zL_ _) fun i hi => ?_
 conv => whnf
 refine bs (fun h1 => ?_) (fun h1 => ?_)
 ·
  conv => whnf
  have h1' : i < s.q.g.n := by simpa using h1
  obtain ⟨a, ha⟩ := at_some (l := s.q.r.lo) (i := i) (by omega)
  obtain ⟨b, hb⟩ := at_some (l := s.q.r.hi) (i := i) (by omega)
  have hv : (ivs0 s.q.r)[i]? = some ⟨a, b⟩ := by rw [ivs0, List.getElem?_zipWith_eq_some]; exact ⟨a, b, ha, hb, rfl⟩
  refine .mk (i) ((can a).D) (rfl) (at_map (f := fun q => (can q).D) ha) ?_
  conv => whnf
  conv => whnf
  refine .mk (i) ((can b).D) (rfl) (at_map (f := fun q => (can q).D) hb) ?_
  conv => whnf
  conv => whnf
  refine .mk i rfl h1' ?_
  conv => whnf
  have hal : (((ivs0 s.q.r).take i).map Iv.D).length = i := by rw [List.length_map, List.length_take]; omega
  refine .mk i 0 zRow (((ivs0 s.q.r).take (i + 1)).map Iv.D ++ List.replicate (s.q.g.n - (i + 1)) zRow) rfl (by rw [List.getElem?_append_right (by omega), hal, Nat.sub_self, List.getElem?_replicate, if_pos (by omega)]) (Nat.le_of_ble_eq_true rfl) (by rw [take_snoc hv, show s.q.g.n - i = s.q.g.n - (i + 1) + 1 by omega, set_next hal, List.map_append]; rfl) ?_
  conv => whnf
  refine .mk (by kernel_rfl) ?_
  conv => whnf
  exact ⟨i + 1, Wk.go, h1', by omega⟩
 ·
  conv => whnf
  have e : i = s.q.g.n := by simp at h1; omega
  subst e
  refine .mkw Nat (fun j => ⟨[(43, vl (.int .i64 j)), (42, vl (.int .i64 (s.path.map Dc.D).length)), (41, .a (.d (dcsD s.path))), (5, .a (.tab 2 s.q.g.n)), (1, .a (.ptr 0 0))], [(0, .box 43 s.A), (2, .tab 82 6 (((s.path.take j).foldl (bxStep s.q) (ivs0 s.q.r)).map Iv.D))], 3⟩) (fun j => j ≤ s.path.length) (fun j => s.path.length - j) 0 (by rw [List.take_of_length_le (by omega), Nat.sub_self, List.replicate_zero, List.append_nil]; exact Wk.go) (zL_ _) fun j hj => ?_
  conv => whnf
  refine bs (fun h2 => ?_) (fun h2 => ?_)
  ·
   conv => whnf
   have h2' : j < s.path.length := by simpa using h2
   obtain ⟨d, hd⟩ := at_some h2'
   have hdm := mG_ hd
   have hsm := hs.pn d hdm
   have hfo : (s.path.take (j + 1)).foldl (bxStep s.q) (ivs0 s.q.r) = bxStep s.q ((s.path.take j).foldl (bxStep s.q) (ivs0 s.q.r)) d := by rw [take_snoc hd, List.foldl_append]; rfl
   have hbl := bx_len hs (s.path.take j)
   have hbb := bx_b hs j
   generalize (s.path.take j).foldl (bxStep s.q) (ivs0 s.q.r) = L at *
   refine .mk (j) (d.D) (rfl) (at_map hd) ?_
   conv => whnf
   conv => whnf
   refine .c (lx_Fits hs.q hsm) ?_
   conv => whnf
   refine bs (fun hf => ?_) (fun hf => ?_)
   ·
    conv => whnf
    refine bs (fun h3 => ?_) (fun h3 => ?_)
    ·
     conv => whnf
     have h3' : d.k = 3 := by simpa using h3
     obtain ⟨i1, i2⟩ := fits_ix hf (.inl h3')
     obtain ⟨v, hv⟩ := at_some (l := L) (i := d.i.toNat) (by omega)
     have hvb := hbb v (mG_ hv)
     refine .mk d.i.toNat (by omega) (by omega) ?_
     conv => whnf
     refine .mk d.i.toNat 0 v.D rfl (at_map hv) ?_
     conv => whnf
     refine .c (lx_rmax (.c (hvb.1.mono (by decide))) hsm.rq) ?_
     conv => whnf
     refine .mk d.i.toNat (by omega) (by omega) ?_
     conv => whnf
     refine .mk d.i.toNat 0 v.D ((bxStep s.q L d).map Iv.D) rfl (at_map hv) (Nat.le_of_ble_eq_true rfl) (by rw [bxStep, if_pos hf, hv]; simp only [if_pos h3']; rw [List.map_set]; rfl) ?_
     conv => whnf
     refine .mk (by kernel_rfl) ?_
     conv => whnf
     exact ⟨j + 1, by rw [hfo]; exact Wk.go, h2', by omega⟩
    ·
     conv => whnf
     refine bs (fun h4 => ?_) (fun h4 => ?_)
     ·
      conv => whnf
      have h3' : ¬ d.k = 3 := by simpa using h3
      have h4' : d.k = 4 := by simpa using h4
      obtain ⟨i1, i2⟩ := fits_ix hf (.inr h4')
      obtain ⟨v, hv⟩ := at_some (l := L) (i := d.i.toNat) (by omega)
      have hvb := hbb v (mG_ hv)
      refine .mk d.i.toNat (by omega) (by omega) ?_
      conv => whnf
      refine .mk d.i.toNat 3 v.D rfl (at_map hv) ?_
      conv => whnf
      refine .c (lx_rmin (.c (hvb.2.mono (by decide))) hsm.rq) ?_
      conv => whnf
      refine .mk d.i.toNat (by omega) (by omega) ?_
      conv => whnf
      refine .mk d.i.toNat 3 v.D ((bxStep s.q L d).map Iv.D) rfl (at_map hv) (Nat.le_of_ble_eq_true rfl) (by rw [bxStep, if_pos hf, hv]; simp only [if_neg h3', if_pos h4']; rw [List.map_set]; rfl) ?_
      conv => whnf
      refine .mk (by kernel_rfl) ?_
      conv => whnf
      exact ⟨j + 1, by rw [hfo]; exact Wk.go, h2', by omega⟩
     ·
      conv => whnf
      have e : bxStep s.q L d = L := by
       rw [bxStep, if_pos hf]
       split
       ·
        rw [if_neg (by simpa using h3), if_neg (by simpa using h4)]
       ·
        rfl
      exact ⟨j + 1, by rw [hfo, e]; exact Wk.go, h2', by omega⟩
   ·
    conv => whnf
    have e : bxStep s.q L d = L := by rw [bxStep, if_neg (by rw [hf]; exact Bool.false_ne_true)]
    exact ⟨j + 1, by rw [hfo, e]; exact Wk.go, h2', by omega⟩
  ·
   conv => whnf
   have e : j = s.path.length := by simp at h2; omega
   subst e
   rw [List.take_length]
   refine ⟨_, Wk.freeze 5 2 s.q.g.n rfl rfl (by omega), ?_⟩
   conv => whnf
   have hbb := bx_b hs s.path.length
   rw [List.take_length] at hbb
   have hbl := bx_len hs s.path
   refine .c (lx_cfV (fs := s.path.foldl (bxStep s.q) (ivs0 s.q.r)) (by omega) rfl fun v hv => lx_box1 ((hbb v hv).1.mono (by decide)) ((hbb v hv).2.mono (by decide))) ?_
   conv => whnf
   refine bs (fun h5 => ?_) (fun h5 => ?_)
   ·
    conv => whnf
    exact .mk _ [] ⟨rfl, rfl⟩ (WkV.tup ⟨by rw [bxR, bxS, if_pos h5]; exact WkA.nil, by rw [bxE, bxS, if_pos h5]; exact aR_ _, trivial⟩) rfl trivial rfl
   ·
    conv => whnf
    have h5' : ¬ (s.path.foldl (bxStep s.q) (ivs0 s.q.r)).any ivBad = true := by rw [h5]; exact Bool.false_ne_true
    exact .q ⟨by rw [bxR, bxE, bxS, if_neg h5', if_neg h5'], rfl⟩
end Go.Proofs.YtikglhmabidjoaaGreat.Lf
namespace Go.Proofs.YtikglhmabidjoaaGreat.Lf
open Go.RowKit Nt
attribute [local go_sem] Oper.semAt_some
abbrev M0 : MS := fun _ _ => False
def γ0 : Gh := fun _ => undef
theorem rel0 {M : MS} {w : World} (h : Glb M w) : Rel γ0 (look []) M0 w :=
 ⟨fun key e he => absurd he (by simp [look]), fun key b i ho => by simp [Owns, look] at ho, fun k1 k2 b l1 => by simp [look, live] at l1, fun b i n h => h.elim, fun b i h => h.elim, h.fx fun b i v k => ⟨fun h => h, k.2⟩⟩
theorem toM0 {M : MS} {w : World} {d : D} {v : Value} (h : RdD M w d v) : RdD M0 w d v := h.fx fun b i v k => ⟨fun h => h, k.2⟩
theorem fx_below {w w' : World} (h : Below w.heap.size w w') : ∀ b i v, Fx M0 w b i v → Fx M0 w' b i v := fun b i v k =>
 ⟨fun h => h, by rw [World.cell?_of_block (w := w) (a := ⟨b, i, none⟩) (h.block b (World.block_lt_of_cell? _ _ k.2))]; exact k.2⟩
theorem lv_at {P : Program} {F : FuncId} {args : List V} {v : V} (h : LV P F args v) {w : World} {rs : List Value} (hG : Glb M0 w) (ha : All2 (RdV γ0 (look []) M0 w) args rs) :
  Calls P F rs.toArray w fun e w' => ∃ r, e = .returned r ∧ Below w.heap.size w w' ∧ ∃ γ' M', RdV γ' (look []) M' w' v r := by
 obtain ⟨v', H', ⟨rfl, rfl⟩, hc⟩ := h
 refine cM (hc γ0 M0 w rs (rel0 hG) ha) ?_
 rintro e w' ⟨r, γ', M', h1, h2, h3, h4⟩
 exact ⟨r, h1, ⟨h4.os, h4.tape, h4.output, h4.size, fun k hk => h4.other k hk fun key i ho => by simp [Owns, look] at ho⟩, γ', M', h3⟩
theorem lv_lit {P : Program} {F : FuncId} {args : List V} {u : Value} (h : LV P F args (vl u)) {w : World} {rs : List Value} (hG : Glb M0 w) (ha : All2 (RdV γ0 (look []) M0 w) args rs) :
  Calls P F rs.toArray w fun e w' => e = .returned u ∧ Below w.heap.size w w' := by
 refine cM (lv_at h hG ha) ?_
 rintro e w' ⟨r, rfl, h1, γ', M', h2⟩
 exact ⟨by rw [show r = u from lit_inv h2], h1⟩
def ScW (s : Sp) (w : World) (vs : List Value) : Prop := All2 (RdA γ0 (look []) M0 w) s.A vs
theorem ScW.to {s : Sp} {w w' : World} {vs : List Value} (h : ScW s w vs) (hb : Below w.heap.size w w') : ScW s w' vs :=
 All2.imp (fun x v k => RdA.stp ⟨hb.os, hb.tape, hb.output, hb.size, fx_below hb, fun b hlt _ => hb.block b hlt, fun b i k _ => k, fun key b i ho _ => ⟨key, ho⟩, fun key e he => ⟨e, he, Goes.refl e, .inl rfl⟩⟩ k) h
theorem rd_slice {k : Nat} {xs : List (List D)} {M : MS} {w : World} {v : Value} (h : RdD M w (.sl k xs) v) : ∃ a c, v = .slice a xs.length c := by
 cases h; exact ⟨_, _, rfl⟩
theorem ScW.open {s : Sp} {w : World} {vs : List Value} (h : ScW s w vs) : ∃ a1 c1 v2 v3 v4 v5 v6 v7 v8 v9 v10 v11, vs = [.int .i64 s.q.g.n, .slice a1 s.q.g.us.length c1, v2, v3, v4, v5, v6, v7, v8, v9, v10, v11] := by
 match vs, h with
 | [v0, v1, v2, v3, v4, v5, v6, v7, v8, v9, v10, v11], h =>
   obtain ⟨h0, h1, _⟩ := h
   obtain ⟨a, c, e⟩ := rd_slice (show RdD M0 w (.sl 4 (s.q.g.us.map Af.D)) v1 from h1)
   rw [List.length_map] at e
   rw [show v0 = .int .i64 s.q.g.n from lit_inv h0, e]
   exact ⟨a, c, _, _, _, _, _, _, _, _, _, _, rfl⟩
def openB (s : Sp) (j : Nat) : Bool := phaseS s j == 0
def openTo (s : Sp) (k : Nat) : List Nat := (List.range k).filter (openB s)
def openS (s : Sp) : List Nat := openTo s s.q.g.us.length
theorem openTo_succ (s : Sp) (k : Nat) : openTo s (k + 1) = if openB s k = true then openTo s k ++ [k] else openTo s k := by
 simp only [openTo, List.range_succ, List.filter_append]
 split <;> simp_all
theorem openTo_len (s : Sp) (k : Nat) : (openTo s k).length ≤ k := by
 have := List.length_filter_le (openB s) (List.range k)
 simpa [openTo] using this
theorem openTo_pre (s : Sp) {k n : Nat} (h : k ≤ n) : openTo s k <+: openTo s n := by
 induction n with
 | zero => rw [show k = 0 by omega]; exact List.prefix_refl _
 | succ n ih =>
   rcases Nat.lt_or_ge n k with h1 | h1
   ·
    rw [show k = n + 1 by omega]; exact List.prefix_refl _
   ·
    refine (ih h1).trans ?_
    rw [openTo_succ]
    split
    ·
     exact List.prefix_append _ _
    ·
     exact List.prefix_refl _
abbrev encN (j : Nat) : Value := .int .i64 (j : Int)
theorem open1_in {s : Sp} (hs : SpOk s) (n : Nat) (hn : 1 ≤ n) (l g : Nat) (w : World) (hG : Glb M0 w) (vs : List Value) (hv : ScW s w vs) (hg : w.heap[g]? = some (.cells vs.toArray 43 (0, 0))) (J Jx : List Nat → World → Prop)
  (B : Nat) (hJ : AbidesFrom B J) (hY : ∀ pre x W, J pre W → pre.length < s.q.g.us.length → YieldAt Fence.wide (n - 1) Tryz.prog l #[encN x] W fun e W' =>
   (e = .returned (.bool true) ∧ J (pre ++ [x]) W' ∧ Below w.heap.size W W') ∨ (e = .returned (.bool false) ∧ Jx (pre ++ [x]) W'))
  (W : World) (hW : Below w.heap.size w W) (h0 : J [] W) :
  CallsIn Fence.wide n Tryz.prog 28 #[.func (.yield l) #[] #[], .pointer (some ⟨g, 0, none⟩)] W fun e W' => (∃ v, e = .returned v) ∧
   ((∃ ys, ys = openS s ∧ J ys W') ∨ (∃ pre, pre <+: openS s ∧ Jx pre W')) := by
 have hul := hs.q.g.u1
 obtain ⟨a1, c1, v2, v3, v4, v5, v6, v7, v8, v9, v10, v11, rfl⟩ := hv.open
 have hgl : g < w.heap.size := (Array.getElem?_eq_some_iff.1 hg).1
 have hcell : ∀ {W' : World}, Below w.heap.size w W' → W'.heap[g]? = some (.cells [.int .i64 s.q.g.n, .slice a1 s.q.g.us.length c1, v2, v3, v4, v5, v6, v7, v8, v9, v10, v11].toArray 43 (0, 0)) := fun h => (h.block g hgl).trans hg
 have hGl : ∀ {W' : World}, Below w.heap.size w W' → Glb M0 W' := fun h => hG.fx (fx_below h)
 refine callsIn_of_wp Tryz.func28 rfl trivial ?_ rfl
 simp only [Tryz.ntmps28, List.size_toArray, List.length_cons, List.length_nil, Nat.reduceAdd, Nat.reduceSub, Array.replicate_succ, Array.replicate_zero, List.push_toArray, List.append_toArray, List.nil_append, List.cons_append]
 have cf : ∀ {W' : World}, Below w.heap.size w W' → W'.cell? ⟨g, 0, none⟩ = some (.int .i64 s.q.g.n) ∧ W'.cell? ⟨g, 1, none⟩ = some (.slice a1 s.q.g.us.length c1) ∧ W'.cell? ⟨g, 2, none⟩ = some v2 ∧ W'.cell? ⟨g, 3, none⟩ = some v3 ∧ W'.cell? ⟨g, 4, none⟩ = some v4 ∧ W'.cell? ⟨g, 5, none⟩ = some v5 ∧ W'.cell? ⟨g, 6, none⟩ = some v6 ∧
   W'.cell? ⟨g, 7, none⟩ = some v7 ∧ W'.cell? ⟨g, 8, none⟩ = some v8 ∧ W'.cell? ⟨g, 9, none⟩ = some v9 ∧ W'.cell? ⟨g, 10, none⟩ = some v10 ∧ W'.cell? ⟨g, 11, none⟩ = some v11 := fun h => by
  have := hcell h
  simp only [World.cell?, this]
  exact ⟨rfl, rfl, rfl, rfl, rfl, rfl, rfl, rfl, rfl, rfl, rfl, rfl⟩
 obtain ⟨d0, d1, d2, d3, d4, d5, d6, d7, d8, d9, d10, d11⟩ := cf hW
 have hvW := hv.to hW
 gi_wp2_with fail
 refine ⟨trivial, (callsIn_wide.2 (lv_lit (rs := [.agg #[.int .i64 s.q.g.n, .slice a1 s.q.g.us.length c1, v2, v3, v4, v5, v6, v7, v8, v9]]) (lx_quvalid hs.q) (hGl hW) ⟨⟨[.int .i64 s.q.g.n, .slice a1 s.q.g.us.length c1, v2, v3, v4, v5, v6, v7, v8, v9], rfl, hvW.1, hvW.2.1, hvW.2.2.1, hvW.2.2.2.1, hvW.2.2.2.2.1, hvW.2.2.2.2.2.1, hvW.2.2.2.2.2.2.1, hvW.2.2.2.2.2.2.2.1, hvW.2.2.2.2.2.2.2.2.1, hvW.2.2.2.2.2.2.2.2.2.1, trivial⟩, trivial⟩)).mono ?_⟩
 rintro e W1 ⟨rfl, hb1⟩
 have hW1 : Below w.heap.size w W1 := hW.trans (hb1.mono hW.size)
 clear d0 d1 d2 d3 d4 d5 d6 d7 d8 d9 d10 d11
 obtain ⟨d0, d1, d2, d3, d4, d5, d6, d7, d8, d9, d10, d11⟩ := cf hW1
 gi_wp2_with fail
 gi_loopw [13] (fun i wr => ∃ k : Nat, k ≤ s.q.g.us.length ∧ i = .int .i64 k ∧ Below w.heap.size w wr ∧ J (openTo s k) wr) (fun i _ => s.q.g.us.length - (intOf i).toNat)
 case atStart => exact ⟨0, zL_ _, rfl, hW1, hJ _ _ _ none h0 ⟨hb1.os, hb1.tape, hb1.output, hb1.size, fun i hi _ => hb1.block i hi⟩ (fun r e => by cases e)⟩
 case round =>
  obtain ⟨k, hk, rfl, hWr, hJr⟩ := hrel
  clear d0 d1 d2 d3 d4 d5 d6 d7 d8 d9 d10 d11
  obtain ⟨d0, d1, d2, d3, d4, d5, d6, d7, d8, d9, d10, d11⟩ := cf hWr
  have hvr := hv.to hWr
  gi_wp2_with fail
  ·
   have hlt : k < s.q.g.us.length := by assumption
   refine ⟨trivial, (callsIn_wide.2 (lv_lit (rs := [.agg #[.int .i64 s.q.g.n, .slice a1 s.q.g.us.length c1, v2, v3, v4, v5, v6, v7, v8, v9, v10, v11], .int .i64 k]) (lx_phase hs (u := k)) (hGl hWr) ⟨⟨_, rfl, hvr⟩, .lit _, trivial⟩)).mono ?_⟩
   rintro e W2 ⟨rfl, hb2⟩
   have hW2 : Below w.heap.size w W2 := hWr.trans (hb2.mono hWr.size)
   have hJ2 : J (openTo s k) W2 := hJ _ _ _ none hJr ⟨hb2.os, hb2.tape, hb2.output, hb2.size, fun i hi _ => hb2.block i hi⟩ (fun r e => by cases e)
   have hlen := openTo_len s k
   by_cases ho : openB s k = true
   ·
    have ho' : (phaseS s k == 0) = true := ho
    obtain ⟨fn, tmps, assign, body, hy, hR⟩ := hY (openTo s k) k W2 hJ2 (by omega)
    dsimp only [encN] at hy
    gi_wp2
    refine hR.mono ?_
    rintro e W3 (⟨rfl, hJ3, hk3⟩ | ⟨rfl, hJx3⟩)
    ·
     gi_wp2
     exact ⟨⟨k + 1, by omega, by go_num, hW2.trans hk3, by rw [openTo_succ, if_pos ho]; exact hJ3⟩, by simp [intOf]; omega⟩
    ·
     gi_wp2
     refine bodyPost_ret (results_none rfl _ _ _) rfl ?_
     refine ⟨⟨_, rfl⟩, .inr ⟨openTo s k ++ [k], ?_, hJx3⟩⟩
     have := openTo_pre s (show k + 1 ≤ s.q.g.us.length from hlt)
     rwa [openTo_succ, if_pos ho] at this
   ·
    have ho' : (phaseS s k == 0) = false := by
     cases h : (phaseS s k == 0) with
     | true => exact absurd h ho
     | false => rfl
    gi_wp2
    refine ⟨fun f h => (by cases h), ?_⟩
    gi_wp2
    exact ⟨⟨k + 1, by omega, by go_num, hW2, by rw [openTo_succ, if_neg ho]; exact hJ2⟩, by simp [intOf]; omega⟩
  ·
   have e : k = s.q.g.us.length := by omega
   subst e
   go_end0
   exact ⟨⟨_, rfl⟩, .inl ⟨_, rfl, hJr⟩⟩
theorem open_stops {s : Sp} (hs : SpOk s) (n : Nat) (hn : 1 ≤ n) (g : Nat) (w w0 : World) (hw0 : Below w.heap.size w w0) (hG : Glb M0 w) (vs : List Value) (hv : ScW s w vs) (hg : w.heap[g]? = some (.cells vs.toArray 43 (0, 0))) :
  SeqStopsK Fence.wide n Tryz.prog 28 #[.pointer (some ⟨g, 0, none⟩)] (fun x : Nat => #[encN x]) (Below w.heap.size) (fun ys => ys = openS s) (fun pre => pre <+: openS s) s.q.g.us.length w0 := fun l J Jx W hW hJ _ hY h0 =>
 open1_in hs n hn l g w hG vs hv hg J Jx _ hJ hY W (hw0.trans (hW.mono hw0.size)) h0
theorem i_int : (Tryz.prog.info? 3).map (fun i => (i.zero, i.size, i.bytes)) = some (some (.int .i64 0), 1, 8) := by kernel_rfl
theorem u_ints : Tryz.prog.underlying 45 = some (.slice 3) := by kernel_rfl
theorem openS_len (s : Sp) : (openS s).length ≤ s.q.g.us.length := openTo_len s _
theorem appendSeq_in {s : Sp} (hs : SpOk s) (n : Nat) (hn : 3 ≤ n) (g : Nat) (w : World) (hG : Glb M0 w) (vs : List Value) (hv : ScW s w vs) (hg : w.heap[g]? = some (.cells vs.toArray 43 (0, 0))) :
  CallsIn Fence.wide n Tryz.prog 79 #[.slice none 0 0, .func (.func 28) #[] #[.pointer (some ⟨g, 0, none⟩)]] w fun e W' =>
   ∃ v, e = .returned v ∧ W'.ownsRow w.heap.size 3 1 v (openS s).length ((openS s).map encN) ∧ Below w.heap.size w W' := by
 have h1 : 1 ≤ n := by omega
 have hul := hs.q.g.u1
 obtain ⟨i0, hi, hz0, hz1, hz2⟩ := info_parts i_int
 refine callsIn_of_wp_marks Tryz.func79 rfl trivial ?_ rfl
 simp only [Tryz.ntmps79, List.size_toArray, List.length_cons, List.length_nil, Nat.reduceAdd, Nat.reduceSub, Array.replicate_succ, Array.replicate_zero, List.push_toArray, List.append_toArray, List.nil_append, List.cons_append]
 gi_wp2
 have bO := Boxed.new w 45 (.slice none 0 0)
 have hB0 : Below w.heap.size w (w.alloc (.cells #[.slice none 0 0] 45)) := (bR_ _ w).alloc (lR_ _) _
 refine wpIn_rangeFunc_ownG rfl h1 (gf := 28) (lb := #[.pointer (some ⟨g, 0, none⟩)]) rfl trivial (enters_of Tryz.func28 (by kernel_rfl) rfl)
  (open_stops hs (n - 1) (by omega) g w _ hB0 hG vs hv hg) belowK_t (belowK_b (by simp)) (bR_ _ _) (fun _ => rfl)
  (fun pre W => (∃ v, Boxed W w.heap.size 45 v ∧ W.ownsRow w.heap.size 3 1 v pre.length (pre.map encN) ∧ True) ∧ Below w.heap.size w W)
  (fun _ _ _ => False)
  (OwnFrom.and (Own.from (holdsRow_own w.heap.size w.heap.size 45 3 1 (fun pre : List Nat => pre.length) (fun pre => pre.map encN) (fun _ _ => True)) _) (ownFrom_below (lR_ _) (by simp)))
  (fun _ _ _ _ _ hs _ _ => hs)
  ⟨⟨_, bO, World.ownsRow_nil _ _ _ _, trivial⟩, hB0⟩
  (fun x => { tmps := #[.slice none 0 0, .func (.func 28) #[] #[.pointer (some ⟨g, 0, none⟩)], .pointer (some ⟨w.heap.size, 0, none⟩), undef, .slice none 0 0, encN x, .func (.func 28) #[] #[.pointer (some ⟨g, 0, none⟩)], encN x, undef, undef, undef, undef, undef], defers := [] }) ?assign ?body ?done ?stop
 case assign =>
  intro l x W K hK
  gi_wp2
  exact hK
 case body =>
  rintro l pre x W ⟨⟨v, hv, hrow, hnil⟩, hB⟩ hlt
  have hc := hv.cell
  gi_wp2_with (gi_at_builtin; refine wpListIn_append_own _ rfl _ _ 45 rfl w.heap.size 3 i0 (.int .i64 0) 1 8 u_ints hi hz0 hz1 hz2 rfl (by decide) _ _ _ rfl (hrow.alloc _) ⟨W.heap.size, 0, none⟩ 1 1 [encN x] rfl rfl (cell_one_new _ _ _) (by simp [Value.oneCell']) (by unfold maxLen; omega) (by omega) (by have := hB.size; simp; omega) ?_; intro v' w1 hown' hgrow _; obtain ⟨g', cap', rfl⟩ := ownsRow_succ hown'; obtain ⟨hv1, hv2, hr2, hk2, hb2⟩ := hv.appended (by decide) hrow hB.size (lR_ _) hown' hgrow; have hc1 := hv1.cell; have hf1 := hv1.frozen)
  exact ⟨hk2.from _, hb2, ⟨_, hv2, by simpa using hr2, trivial⟩, hB.trans hb2⟩
 case done =>
  rintro D ys W hD rfl ⟨⟨v, hv, hrow, hnil⟩, hB⟩ hK
  have hc := hv.cell
  gi_wp2
  refine ⟨by simp, .inl ⟨_, _, rfl, run_takeDeferred hK, ?_⟩⟩
  exact ⟨_, results_tmp rfl _ _ _, v, rfl, ownsRow_putObj hrow _ hK rfl, hB.trans (belowK_b (w := w) (lR_ _) W D _ _ (by simp at hD; omega) hK rfl rfl)⟩
 case stop =>
  rintro D c pre W _ _ h _
  exact h.elim
end Go.Proofs.YtikglhmabidjoaaGreat.Lf
namespace Go.Proofs.YtikglhmabidjoaaGreat.Lf
open Go.RowKit Nt
attribute [local go_sem] Oper.semAt_some
def Sp.Ds (s : Sp) : List D := [.lit (.int .i64 s.q.g.n), afsD s.q.g.us, afsD s.q.g.os, rqsD s.q.r.lo, rqsD s.q.r.hi, afsD s.q.r.rs, .sl 4 (s.q.goal.ts.map Tm.D), .lit (.bool (decide (s.q.goal.c < 0))), .lm (limbs s.q.goal.c.num.natAbs), .lm (limbs (dn s.q.goal.c)), dcsD s.path, lmsD s.ls]
theorem Sp.A_Ds (s : Sp) : s.A = s.Ds.map A.d := rfl
theorem all2_ds {γ : Gh} {h : Hp} {M : MS} {w : World} : ∀ {ds : List D} {vs : List Value}, All2 (RdA γ h M w) (ds.map A.d) vs → All2 (RdA γ0 (look []) M0 w) (ds.map A.d) vs
 | [], [], _ => trivial
 | d :: ds, v :: vs, k => ⟨toM0 (d := d) k.1, all2_ds k.2⟩
 | [], _ :: _, k => k.elim
 | _ :: _, [], k => k.elim
theorem scw_of {s : Sp} {γ : Gh} {h : Hp} {M : MS} {w : World} {vs : List Value} (k : All2 (RdA γ h M w) s.A vs) : ScW s w vs := by
 rw [Sp.A_Ds] at k
 rw [ScW, Sp.A_Ds]
 exact all2_ds k
theorem rel_box {t : TypeId} {cs : List A} {γ : Gh} {M : MS} {w w' : World} (r : Rel γ (look [(0, .box t cs)]) M w) (hb : Below w.heap.size w w') :
  Rel γ (look [(0, .box t cs)]) M w' ∧ Stp γ (look [(0, .box t cs)]) M w γ (look [(0, .box t cs)]) M w' := by
 have hc : ∀ b i, b < w.heap.size → w'.cell? ⟨b, i, none⟩ = w.cell? ⟨b, i, none⟩ := fun b i hlt => by simp only [World.cell?]; rw [hb.block b hlt]
 have hfx : ∀ b i v, Fx M w b i v → Fx M w' b i v := fun b i v hf => ⟨hf.1, by rw [hc b i (World.block_lt_of_cell? _ _ hf.2)]; exact hf.2⟩
 have s : Stp γ (look [(0, .box t cs)]) M w γ (look [(0, .box t cs)]) M w' := ⟨hb.os, hb.tape, hb.output, hb.size, hfx, fun b hlt _ => hb.block b hlt, fun b i hm _ => hm, fun key b i ho _ => ⟨key, ho⟩, fun key e he => ⟨e, he, Goes.refl e, .inl rfl⟩⟩
 refine ⟨⟨fun key e hk => ?_, r.own, r.inj, fun b i n hm => by rw [hc b i (r.dom b i hm)]; exact r.u32 b i n hm, fun b i hm => Nat.lt_of_lt_of_le (r.dom b i hm) hb.size, r.glb.fx hfx⟩, s⟩
 have h0 := r.ent key e hk
 simp only [look] at hk
 split at hk
 ·
  injection hk with hk
  subst hk
  obtain ⟨g, vs, k1, k2, k3⟩ := h0
  exact ⟨g, vs, k1, (hb.block g (Array.getElem?_eq_some_iff.1 k2).1).trans k2, All2.imp (fun x v k => RdA.stp s k) k3⟩
 ·
  cases hk
theorem callsIn_mono' {P : Program} {F : FuncId} {args : Array Value} {w : World} {Q R : Ending → World → Prop} (h : CallsIn Fence.wide 9 P F args w Q) (k : ∀ e w', Q e w' → R e w') : Calls P F args w R := (callsIn_wide (n := 9)).1 (h.mono k)
theorem collect_in {s : Sp} (hs : SpOk s) (g : Nat) (w : World) (hG : Glb M0 w) (vs : List Value) (hv : ScW s w vs) (hg : w.heap[g]? = some (.cells vs.toArray 43 (0, 0))) :
  CallsIn Fence.wide 9 Tryz.prog 41 #[.func (.func 28) #[] #[.pointer (some ⟨g, 0, none⟩)]] w fun e W' =>
   ∃ v, e = .returned v ∧ W'.ownsRow w.heap.size 3 1 v (openS s).length ((openS s).map encN) ∧ Below w.heap.size w W' := by
 refine callsIn_of_wp Tryz.func41 rfl trivial ?_ rfl
 simp only [Tryz.ntmps41, List.size_toArray, List.length_cons, List.length_nil, Nat.reduceAdd, Nat.reduceSub, Array.replicate_succ, Array.replicate_zero, List.push_toArray, List.append_toArray, List.nil_append, List.cons_append]
 gi_wp2_with fail
 refine ⟨trivial, (appendSeq_in hs 8 (by decide) g w hG vs hv hg).mono ?_⟩
 rintro e W1 ⟨v, rfl, h1, h2⟩
 gi_wp2_with fail
 exact ⟨rfl, _, results_tmp rfl _ _ _, v, rfl, h1, h2⟩
theorem row_of_owns {M : MS} {w w' : World} (hd : ∀ b i, M b i → b < w.heap.size) {l : List Nat} {v : Value} (h : w'.ownsRow w.heap.size 3 1 v l.length (l.map encN)) (hl : l.length ≤ 1099511627776) : RdD M w' (.sl 1 (l.map fun j => [.lit (encN j)])) v := by
 have hrow : ∀ (i : Nat) (row : List D), (l.map fun j => [D.lit (encN j)])[i]? = some row → ∃ j, l[i]? = some j ∧ row = [.lit (encN j)] := fun i row hi => by
  rw [List.getElem?_map] at hi
  cases hj : l[i]? with
  | none => rw [hj] at hi; cases hi
  | some j => rw [hj] at hi; injection hi with hi; exact ⟨j, rfl, hi.symm⟩
 rcases h.2 with ⟨rfl, h0⟩ | ⟨g, cap, cur, rfl, h1, h2, h3, h4, h5, h6⟩
 ·
  obtain rfl : l = [] := List.eq_nil_of_length_eq_zero h0
  exact .sl 1 [] none 0 (fun _ _ => encN 0) (lR_ _) (zL_ _) (fun h => absurd h (by simp)) (fun i row h => by simp at h) (fun _ _ => rfl) (fun i row j d h => by simp at h)
 ·
  have := RdD.sl (M := M) (w := w') 1 (l.map fun j => [D.lit (encN j)]) (some ⟨g, 0, none⟩) cap (fun i _ => encN (l.getD i 0)) (by simpa using h3) (by simpa using hl) (fun _ => ⟨g, 0, rfl, fun i row j d hi hj => ?_⟩) (fun i row hi => ?_) (fun _ _ => rfl) (fun i row j d hi hj => ?_)
  ·
   rw [List.length_map] at this; exact this
  ·
   obtain ⟨n, hn, rfl⟩ := hrow i row hi
   have hlt := at_lt hn
   obtain rfl : j = 0 := by
    rcases j with _ | j
    ·
     rfl
    ·
     simp at hj
   refine ⟨fun hm => absurd (hd _ _ hm) (by omega), ?_⟩
   have := h.cellAt i (by omega)
   rw [Nat.mul_one, Nat.zero_add, Nat.add_zero, this, List.getElem?_map, hn, List.getD_eq_getElem?_getD, hn]; rfl
  ·
   obtain ⟨n, hn, rfl⟩ := hrow i row hi; rfl
  ·
   obtain ⟨n, hn, rfl⟩ := hrow i row hi
   obtain rfl : j = 0 := by
    rcases j with _ | j
    ·
     rfl
    ·
     simp at hj
   injection hj with hj
   subst hj
   rw [List.getD_eq_getElem?_getD, hn]; exact .lit _
abbrev natsD (l : List Nat) : D := .sl 1 (l.map fun j => [.lit (encN j)])
theorem lx_collect {s : Sp} (hs : SpOk s) : LX Tryz.prog 41 [.a (.fn (.func 28) [] [.ptr 0 0])] [(0, .box 43 s.A)]
  fun v H => v = .a (.d (natsD (openS s))) ∧ H = [(0, .box 43 s.A)] := by
 refine ⟨_, _, ⟨rfl, rfl⟩, fun γ M w rs hr ha => ?_⟩
 obtain ⟨r, rfl, hf⟩ := all2_1 ha
 obtain ⟨x, y, rfl, hx, hy⟩ := hf
 obtain rfl : x = [] := by cases x with
  | nil => rfl
  | cons a b => exact hx.elim
 obtain ⟨p, rfl, hp⟩ : ∃ p, y = [p] ∧ RdB γ (look [(0, Ent.box 43 s.A)]) M w (.ptr 0 0) p := by
  match y, hy with
  | [p], hy => exact ⟨p, rfl, hy.1⟩
 obtain ⟨_, g, hg, rfl⟩ := hp
 obtain ⟨g', vs, k1, k2, k3⟩ := hr.ent 0 _ rfl
 rw [hg] at k1; injection k1 with k1; injection k1 with k1; injection k1 with k1; subst k1
 have hul := hs.q.g.u1
 refine callsIn_mono' (collect_in hs g w (hr.glb.fx fun b i v k => ⟨fun h => h, k.2⟩) vs (scw_of k3) k2) ?_
 rintro e w' ⟨v, rfl, h1, h2⟩
 obtain ⟨r1, r2⟩ := rel_box hr h2
 exact ⟨v, γ, M, rfl, r1, row_of_owns hr.dom h1 (by have := openS_len s; omega), r2⟩
theorem lx_open {s : Sp} : LX Tryz.prog 10 [.agg s.A] [] fun v H => v = .a (.fn (.func 28) [] [.ptr 0 0]) ∧ H = [(0, .box 43 s.A)] := by
 refine LX_run (m := 0) (n0 := 0) mix Tryz.func10 rfl rfl rfl rfl ?_
 conv => whnf
 exact ⟨_, _, ⟨rfl, rfl⟩, vR_ _, rfl, ⟨⟨_, rfl, wke_refl _, rfl⟩, trivial⟩, rfl⟩
end Go.Proofs.YtikglhmabidjoaaGreat.Lf
namespace Go.Proofs.YtikglhmabidjoaaGreat.Lf
open Go.RowKit Nt
theorem bt_mk {k : Nat} {z : Int} {d : Nat} (hd : 0 < d) (h1 : z.natAbs ≤ 2 ^ k) (h2 : d ≤ 2 ^ k) : Bt k (mkRat z d) := by
 refine ⟨?_, ?_⟩
 ·
  rw [Rat.num_mkRat]
  split
  ·
   simp
  ·
   refine tL_ ?_ h1
   rw [Int.natAbs_ediv_of_dvd (Int.ofNat_dvd_left.2 (by first | exact Nat.gcd_dvd_left _ _ | exact Nat.gcd_dvd_right _ _))]
   exact Nat.div_le_self _ _
 ·
  rw [Rat.den_mkRat]
  split
  ·
   exact Nat.one_le_two_pow
  ·
   exact tL_ (Nat.div_le_self _ _) h2
theorem Bt.mul {k l : Nat} {a b : Rat} (h : Bt k a) (h' : Bt l b) : Bt (k + l) (a * b) := by
 rw [← Rat.mkRat_self a, ← Rat.mkRat_self b, Rat.mkRat_mul_mkRat]
 refine bt_mk (Nat.mul_pos a.den_pos b.den_pos) ?_ ?_
 ·
  rw [Int.natAbs_mul, Nat.pow_add]; exact Nat.mul_le_mul h.1 h'.1
 ·
  rw [Nat.pow_add]; exact Nat.mul_le_mul h.2 h'.2
theorem Bt.add {k l : Nat} {a b : Rat} (h : Bt k a) (h' : Bt l b) : Bt (k + l + 1) (a + b) := by
 rw [← Rat.mkRat_self a, ← Rat.mkRat_self b, Rat.mkRat_add_mkRat _ _ a.den_nz b.den_nz]
 have h1 := Nat.mul_le_mul h.1 h'.2
 have h2 := Nat.mul_le_mul h'.1 h.2
 have h3 := Nat.mul_le_mul h.2 h'.2
 rw [← Nat.pow_add] at h1 h2 h3
 rw [Nat.add_comm l k] at h2
 have e : 2 ^ (k + l + 1) = 2 ^ (k + l) + 2 ^ (k + l) := by rw [Nat.pow_succ]; omega
 refine bt_mk (Nat.mul_pos a.den_pos b.den_pos) ?_ (by omega)
 refine tL_ (Int.natAbs_add_le _ _) ?_
 rw [Int.natAbs_mul, Int.natAbs_mul, Int.natAbs_natCast, Int.natAbs_natCast]
 omega
theorem Bt.neg {k : Nat} {a : Rat} (h : Bt k a) : Bt k (-a) := by
 refine ⟨?_, ?_⟩
 ·
  rw [Rat.neg_num, Int.natAbs_neg]; exact h.1
 ·
  rw [Rat.neg_den]; exact h.2
theorem Bt.sub {k l : Nat} {a b : Rat} (h : Bt k a) (h' : Bt l b) : Bt (k + l + 1) (a - b) := by
 rw [Rat.sub_eq_add_neg]; exact h.add h'.neg
theorem Bt.inv {k : Nat} {a : Rat} (h : Bt k a) (h0 : a ≠ 0) : Bt k a⁻¹ := by
 have hn : a.num ≠ 0 := by simpa using h0
 refine ⟨?_, ?_⟩
 ·
  rw [Rat.num_inv, Int.natAbs_mul, Int.natAbs_sign_of_ne_zero hn, Nat.one_mul, Int.natAbs_natCast]; exact h.2
 ·
  rw [Rat.den_inv, if_neg (by simpa using h0)]; exact h.1
theorem Bt.div {k l : Nat} {a b : Rat} (h : Bt k a) (h' : Bt l b) (h0 : b ≠ 0) : Bt (k + l) (a / b) := by
 rw [Rat.div_def]; exact h.mul (h'.inv h0)
theorem sg_lt {q : Rat} : decide (q.num.sign < 0) = decide (q < 0) := by
 have : q.num.sign < 0 ↔ q < 0 := by rw [Int.sign_neg_iff, ← Rat.not_le, ← Rat.num_nonneg]; omega
 simp [this]
theorem sg_gt {q : Rat} : decide (q.num.sign > 0) = decide (0 < q) := by
 have : q.num.sign > 0 ↔ 0 < q := by
  rw [gt_iff_lt, Int.sign_pos_iff, ← Rat.not_le]
  have h2 := Rat.num_nonneg (q := -q)
  rw [Rat.neg_num] at h2
  have h3 : 0 ≤ -q ↔ q ≤ 0 := by constructor <;> intro h <;> grind
  rw [← h3, ← h2]; omega
 simp [this]
theorem rat0V : V.agg [A.d (.lit (.bool false)), .d (.lm (limbs 0)), .d (.lm (limbs 0))] = ratV 0 := by
 have h := can0
 injection h with h1 h2 h3
 show _ = V.agg [_, _, _]
 rw [h1, h2, h3]
def unB (l u : Rat) : Bool := decide (l < 0) && decide (0 < u)
def gapQ (l u : Rat) : Rat := if unB l u = true then -(l * u) / (u - l) else 0
theorem un_ne {l u : Rat} (h : unB l u = true) : u - l ≠ 0 := by
 simp [unB] at h; grind
theorem Bt.gap {l u : Rat} (h1 : Bt 300000000 l) (h2 : Bt 300000000 u) : Bt 1200000001 (gapQ l u) := by
 unfold gapQ
 split
 ·
  rename_i h
  exact ((h1.mul h2).neg.div (h2.sub h1) (un_ne h)).mono (by decide)
 ·
  exact bt0 _
theorem lx_unstable {x y : Rw} (hx : x.sm) (hy : y.sm) : LV Tryz.prog 171 [.agg x.A, .agg y.A] (vl (.bool (unB x.q y.q))) := by
 refine LX_run (m := 0) (n0 := 0) mix Tryz.func171 rfl rfl rfl rfl ?_
 conv => whnf
 repeat' first | (refine bs (fun h => ?_) (fun h => ?_) <;> conv => whnf) | (refine Nc.mk (by kernel_rfl) ?_; conv => whnf) | (refine .c (lx_rsign hx.rq) ?_; conv => whnf) | (refine .c (lx_rsign hy.rq) ?_; conv => whnf)
 all_goals simp only [sg_lt, sg_gt] at *
 all_goals exact .q ⟨by simp_all [unB], rfl⟩
theorem lx_quot {a b : Rat} (ha : Sz a) (hb : Sz b) (h0 : b ≠ 0) : LV Tryz.prog 172 [ratV a, ratV b] (ratV (a / b)) := by
 refine LX_run (m := 0) (n0 := 0) mix Tryz.func172 rfl rfl rfl rfl ?_
 conv => whnf
 refine .c (lx_rdiv h0 (.c ha) (.c hb)) ?_
 conv => whnf
 exact .q ⟨rfl, rfl⟩
theorem lx_gap {x y : Rw} (hx : x.sm) (hy : y.sm) (bx : Bt 300000000 x.q) (by_ : Bt 300000000 y.q) : LV Tryz.prog 129 [.agg x.A, .agg y.A] (ratV (gapQ x.q y.q)) := by
 refine LX_run (m := 0) (n0 := 0) mix Tryz.func129 rfl rfl rfl rfl ?_
 conv => whnf
 refine .c (lx_unstable hx hy) ?_
 conv => whnf
 refine bs (fun h => ?_) (fun h => ?_)
 ·
  conv => whnf
  refine .c (lx_rmul hx.rq hy.rq) ?_
  conv => whnf
  refine .c (lx_rneg (.c ((bx.mul by_).mono (by decide)))) ?_
  conv => whnf
  refine .c (lx_rsub hy.rq hx.rq) ?_
  conv => whnf
  refine .c (lx_quot ((bx.mul by_).neg.mono (by decide)) ((by_.sub bx).mono (by decide)) (un_ne h)) ?_
  conv => whnf
  refine .mk (by kernel_rfl) ?_
  conv => whnf
  exact .q ⟨by rw [gapQ, if_pos h], rfl⟩
 ·
  conv => whnf
  exact .q ⟨by rw [gapQ, if_neg (by rw [h]; exact Bool.false_ne_true)]; exact rat0V, rfl⟩
abbrev chA (s : Sp) (pt : List Rat) : List A := s.A ++ [.d (rqsD pt), .d (natsD (openS s))]
abbrev chH (s : Sp) (pt : List Rat) : List (Nat × Ent) := [(0, .box 95 (chA s pt))]
abbrev dcV (d : Dc) : V := .agg d.A
def onD (u : Int) : Dc := ⟨1, u, ⟨false, limbs 0, limbs 0⟩⟩
theorem lx_on {u : Int} : LV Tryz.prog 80 [vl (.int .i64 u)] (dcV (onD u)) := by
 refine LX_run (m := 0) (n0 := 0) mix Tryz.func80 rfl rfl rfl rfl ?_
 conv => whnf
 exact .q ⟨rfl, rfl⟩
theorem lx_first {s : Sp} {pt : List Rat} {u : Nat} {l : List Nat} (h : openS s = u :: l) : LX Tryz.prog 42 [.a (.ptr 0 0)] (chH s pt) fun v H => v = dcV (onD u) ∧ H = chH s pt := by
 refine LX_run (m := 1) (n0 := 1) mix Tryz.func42 rfl rfl rfl rfl ?_
 conv => whnf
 refine .mk (0) ([.lit (encN u)]) (rfl) (by rw [h]; rfl) ?_
 conv => whnf
 conv => whnf
 refine .c (lx_on) ?_
 conv => whnf
 exact ⟨_, _, ⟨rfl, rfl⟩, vR_ _, rfl, ⟨⟨_, rfl, wke_refl _, rfl⟩, trivial⟩, rfl⟩
def gapS (s : Sp) (u : Int) : Rat := if (bestS s u).1 = 0 ∨ (bestS s u).2 = 0 then 0 else gapQ (vAt s.ls (bestS s u).1) (vAt s.ls (bestS s u).2)
theorem atL_b {ls : List Lm} (h : ∀ m ∈ ls, Bt 300000000 m.v.q) (z : Int) : Bt 300000000 (vAt ls z) := by
 unfold vAt atL
 cases hx : ls[(z - 1).toNat]? with
 | none => show Bt _ (rv false (val []) (val [])); rw [rv_zero]; exact bt0 _
 | some x => exact h x (mG_ hx)
theorem Bt.gapS {s : Sp} (hs : SpOk s) (u : Int) : Bt 1200000001 (gapS s u) := by
 unfold Lf.gapS
 split
 ·
  exact bt0 _
 ·
  exact (atL_b hs.lb _).gap (atL_b hs.lb _)
theorem lx_cgap {s : Sp} {pt : List Rat} {u : Int} (hs : SpOk s) : LX Tryz.prog 82 [.a (.ptr 0 0), vl (.int .i64 u)] (chH s pt) fun v H => v = ratV (gapS s u) ∧ H = chH s pt := by
 have hl := hs.ll
 have hle := bestTo_le s.ls u s.ls.length
 have e : bestS s u = bestTo s.ls u s.ls.length := rfl
 rw [← e] at hle
 obtain ⟨k1, k2, k3, k4⟩ := hle
 refine LX_run (m := 1) (n0 := 1) mix Tryz.func82 rfl rfl rfl rfl ?_
 conv => whnf
 refine .c (lx_best hs) ?_
 conv => whnf
 refine bs (fun h1 => ?_) (fun h1 => ?_)
 ·
  conv => whnf
  exact ⟨_, _, ⟨by rw [gapS, if_pos (.inl (by simpa using h1))]; exact rat0V, rfl⟩, vR_ _, rfl, ⟨⟨_, rfl, wke_refl _, rfl⟩, trivial⟩, rfl⟩
 ·
  conv => whnf
  refine bs (fun h2 => ?_) (fun h2 => ?_)
  ·
   conv => whnf
   exact ⟨_, _, ⟨by rw [gapS, if_pos (.inr (by simpa using h2))]; exact rat0V, rfl⟩, vR_ _, rfl, ⟨⟨_, rfl, wke_refl _, rfl⟩, trivial⟩, rfl⟩
  ·
   conv => whnf
   have p1 := pos_of h1 k1
   have p2 := pos_of h2 k3
   refine .mk (((bestS s u).1 - 1).toNat) ((atL s.ls (bestS s u).1).D) (by rw [wr64 (by omega) (by omega)]; omega) (at_map (atL_some p1 (by omega))) ?_
   conv => whnf
   conv => whnf
   refine .mk (((bestS s u).2 - 1).toNat) ((atL s.ls (bestS s u).2).D) (by rw [wr64 (by omega) (by omega)]; omega) (at_map (atL_some p2 (by omega))) ?_
   conv => whnf
   conv => whnf
   refine .c (lx_gap (atL_sm hs.ln _) (atL_sm hs.ln _) (atL_b hs.lb _) (atL_b hs.lb _)) ?_
   conv => whnf
   refine .mk (by kernel_rfl) ?_
   conv => whnf
   exact ⟨_, _, ⟨by rw [gapS, if_neg (by omega)], rfl⟩, vR_ _, rfl, ⟨⟨_, rfl, wke_refl _, rfl⟩, trivial⟩, rfl⟩
def gStep (φ : Int → Rat) (a : Nat × Rat) (j : Nat) : Nat × Rat := if decide (cmpQ (φ j) a.2 > 0) = true then (j, φ j) else a
def gTo (φ : Int → Rat) (u : Nat) (l : List Nat) (i : Nat) : Nat × Rat := (l.take i).foldl (gStep φ) (u, φ u)
def gMost (φ : Int → Rat) (l : List Nat) : Nat := match l with
 | [] => 0
 | u :: l => (l.foldl (gStep φ) (u, φ u)).1
theorem gTo_succ {φ : Int → Rat} {u : Nat} {l : List Nat} {i j : Nat} (h : l[i]? = some j) : gTo φ u l (i + 1) = gStep φ (gTo φ u l i) j := by
 unfold gTo
 rw [take_snoc h, List.foldl_append]; rfl
theorem gTo_b {φ : Int → Rat} {u : Nat} {l : List Nat} (h : ∀ j, Sz (φ j)) (i : Nat) : Sz (gTo φ u l i).2 := by
 unfold gTo
 generalize l.take i = l
 have : ∀ (l : List Nat) (a : Nat × Rat), Sz a.2 → Sz (l.foldl (gStep φ) a).2 := by
  intro l
  induction l with
  | nil => intro a h; exact h
  | cons j l ih =>
    intro a ha
    refine ih _ ?_
    unfold gStep
    split
    ·
     exact h j
    ·
     exact ha
 exact this l _ (h u)
theorem openTo_lt (s : Sp) (k : Nat) : ∀ j ∈ openTo s k, j < k := fun j h => by
 unfold openTo at h
 exact List.mem_range.1 (List.mem_filter.1 h).1
theorem lx_greatest {s : Sp} {pt : List Rat} {F : FuncId} {φ : Int → Rat} {u : Nat} {l : List Nat} (hs : SpOk s) (ho : openS s = u :: l) (hφ : ∀ j, Sz (φ j)) (he : entT Tryz.prog F = true)
  (hF : ∀ j : Nat, j < s.q.g.us.length → LX Tryz.prog F [.a (.ptr 0 0), vl (.int .i64 j)] (chH s pt) fun v H => v = ratV (φ j) ∧ H = chH s pt) :
  LX Tryz.prog 81 [.a (.ptr 0 0), .a (.fn (.func F) [.ptr 0 0] [])] (chH s pt) fun v H => v = dcV (onD (gMost φ (openS s))) ∧ H = chH s pt := by
 have hul := hs.q.g.u1
 have hln := openS_len s
 rw [ho] at hln
 have hlt : ∀ j ∈ u :: l, j < s.q.g.us.length := fun j hj => openTo_lt s s.q.g.us.length j (by rw [show openTo s s.q.g.us.length = openS s from rfl, ho]; exact hj)
 have hll : l.length ≤ 1024 := by simp at hln; omega
 refine LX_run (m := 1) (n0 := 1) mix Tryz.func81 rfl rfl rfl rfl ?_
 conv => whnf
 refine .mk (0) ([.lit (encN u)]) (rfl) (by rw [ho]; rfl) ?_
 conv => whnf
 conv => whnf
 refine Cn.l [0] (hF u (hlt u (by simp))) ?_ he
 conv => whnf
 refine .mk 1 (openS s).length (l.map fun j => [.lit (encN j)]) rfl (by simp) (by rw [ho]; simp) (by simp) (by rw [ho]; simp [List.take_of_length_le]) ?_
 conv => whnf
 refine .mk Nat (fun i => ⟨[(25, vl (.int .i64 i)), (24, vl (.int .i64 (l.map fun j => [D.lit (encN j)]).length)), (23, .a (.d (natsD l))), (6, .a (.ptr 3 0)), (5, vl (.int .i64 (gTo φ u l i).1)), (4, .a (.ptr 1 0)), (1, .a (.fn (.func F) [.ptr 0 0] []))], [(0, .box 95 (chA s pt)), (1, .box 59 [.d (.lit (.int .i64 0)), .d (.lit (.int .i64 0)), .d (.lit (.bool false)), .d (.nat 0), .d (.nat 0)]), (3, .box 37 (can (gTo φ u l i).2).A)], 4⟩) (fun i => i ≤ l.length) (fun i => l.length - i) 0 Wk.go (zL_ _) fun i hi => ?_
 conv => whnf
 conv => whnf
 refine bs (fun h1 => ?_) (fun h1 => ?_)
 ·
  conv => whnf
  have h1' : i < l.length := by simpa using h1
  obtain ⟨j, hj⟩ := at_some h1'
  have hjl := hlt j (List.mem_cons_of_mem _ (mG_ hj))
  have hgs := gTo_succ (φ := φ) (u := u) hj
  have hgb := gTo_b (u := u) (l := l) hφ i
  generalize gTo φ u l i = a at *
  obtain ⟨b, t⟩ := a
  refine .mk (i) ([.lit (encN j)]) (rfl) (at_map hj) ?_
  conv => whnf
  conv => whnf
  refine Cn.l [0] (hF j hjl) ?_ he
  conv => whnf
  refine .c (lx_rcmp (.c (hφ j)) (.c hgb)) ?_
  conv => whnf
  refine bs (fun h2 => ?_) (fun h2 => ?_)
  ·
   conv => whnf
   refine .mk (by kernel_rfl) ?_
   conv => whnf
   exact ⟨i + 1, by rw [hgs, gStep, if_pos h2]; exact Wk.go, h1', by omega⟩
  ·
   conv => whnf
   exact ⟨i + 1, by rw [hgs, gStep, if_neg (by rw [h2]; exact Bool.false_ne_true)]; exact Wk.go, h1', by omega⟩
 ·
  conv => whnf
  have e : i = l.length := by simp at h1; omega
  subst e
  refine .c (lx_on) ?_
  conv => whnf
  exact ⟨_, _, ⟨by rw [ho, gMost, gTo, List.take_length], rfl⟩, vR_ _, rfl, ⟨⟨_, rfl, wke_refl _, rfl⟩, trivial⟩, rfl⟩
theorem lx_widest {s : Sp} {pt : List Rat} {u : Nat} {l : List Nat} (hs : SpOk s) (ho : openS s = u :: l) :
  LX Tryz.prog 43 [.a (.ptr 0 0)] (chH s pt) fun v H => v = dcV (onD (gMost (gapS s) (openS s))) ∧ H = chH s pt := by
 refine LX_run (m := 1) (n0 := 1) mix Tryz.func43 rfl rfl rfl rfl ?_
 conv => whnf
 refine .l [0] (lx_greatest hs ho (fun j => (Bt.gapS hs j).mono (by decide)) rfl fun j _ => lx_cgap hs) ?_
 conv => whnf
 exact ⟨_, _, ⟨rfl, rfl⟩, vR_ _, rfl, ⟨⟨_, rfl, wke_refl _, rfl⟩, trivial⟩, rfl⟩
theorem Bt.int {z : Int} {k : Nat} (h : z.natAbs ≤ 2 ^ k) : Bt k (z : Rat) := ⟨by rw [Rat.num_intCast]; exact h, by rw [Rat.den_intCast]; exact Nat.one_le_two_pow⟩
def isIn (d : Dc) : Bool := (d.k == 3) || (d.k == 4)
def cntI (l : List Dc) : Nat := (l.filter isIn).length
theorem cntI_succ {l : List Dc} {i : Nat} {d : Dc} (h : l[i]? = some d) : cntI (l.take (i + 1)) = if isIn d = true then cntI (l.take i) + 1 else cntI (l.take i) := by
 simp only [cntI, take_snoc h, List.filter_append, List.length_append]
 split <;> simp_all
theorem cntI_le (l : List Dc) (i : Nat) : cntI (l.take i) ≤ i := tL_ (List.length_filter_le _ _) (List.length_take_le _ _)
def ivAt (L : List Iv) (j : Nat) : Iv := (L[j]?).getD ⟨0, 0⟩
def wd (L : List Iv) (j : Nat) : Rat := (ivAt L j).hi - (ivAt L j).lo
def wTo (L : List Iv) : Nat → Nat
 | 0 => 0
 | i + 1 => if decide (cmpQ (wd L i) (wd L (wTo L i)) > 0) = true then i else wTo L i
theorem wTo_lt (L : List Iv) (h : 0 < L.length) : ∀ i, i ≤ L.length → wTo L i < L.length
 | 0, _ => h
 | i + 1, hi => by
   have ih := wTo_lt L h i (by omega)
   simp only [wTo]
   split <;> omega
theorem ivAt_some {L : List Iv} {j : Nat} (h : j < L.length) : L[j]? = some (ivAt L j) := by
 unfold ivAt
 rw [List.getElem?_eq_getElem h]; rfl
theorem wd_b {L : List Iv} (h : IvB L) (j : Nat) : Bt 600000001 (wd L j) := by
 unfold wd ivAt
 cases hx : L[j]? with
 | none => show Bt _ ((0 : Rat) - 0); rw [show (0 : Rat) - 0 = 0 from by grind]; exact bt0 _
 | some v =>
   have := (h v (mG_ hx)).2.sub (h v (mG_ hx)).1
   exact this.mono (by decide)
theorem ivAt_b {L : List Iv} (h : IvB L) (j : Nat) : Bt 300000000 (ivAt L j).lo ∧ Bt 300000000 (ivAt L j).hi := by
 unfold ivAt
 cases hx : L[j]? with
 | none => exact ⟨bt0 _, bt0 _⟩
 | some v => exact h v (mG_ hx)
def firS (s : Sp) : Dc := onD ((openS s).headD 0 : Nat)
def bisS (s : Sp) : Dc :=
 if decide ((cntI s.path : Int) ≥ 4) = true ∨ bxE s ≠ 0 then firS s
 else if (wd (bxR s) (wTo (bxR s) (bxR s).length)).num.sign = 0 then firS s
 else ⟨3, wTo (bxR s) (bxR s).length, can (((ivAt (bxR s) (wTo (bxR s) (bxR s).length)).lo + (ivAt (bxR s) (wTo (bxR s) (bxR s).length)).hi) / ((2 : Int) : Rat))⟩
abbrev ivH (L : List Iv) : List (Nat × Ent) := [(0, .box 51 [.d (ivsD L)])]
theorem lx_wd {L : List Iv} {j : Nat} (hb : IvB L) (hj : j < L.length) : LX Tryz.prog 83 [vl (.int .i64 j), .a (.ptr 0 0)] (ivH L) fun v H => v = ratV (wd L j) ∧ H = ivH L := by
 have hv := ivAt_b hb j
 refine LX_run (m := 1) (n0 := 1) mix Tryz.func83 rfl rfl rfl rfl ?_
 conv => whnf
 refine .mk (j) ((ivAt L j).D) (rfl) (at_map (ivAt_some hj)) ?_
 conv => whnf
 conv => whnf
 refine .mk (j) ((ivAt L j).D) (rfl) (at_map (ivAt_some hj)) ?_
 conv => whnf
 conv => whnf
 refine .c (lx_rsub (.c (hv.2.mono (by decide))) (.c (hv.1.mono (by decide)))) ?_
 conv => whnf
 refine .mk (by kernel_rfl) ?_
 conv => whnf
 exact ⟨_, _, ⟨rfl, rfl⟩, vR_ _, rfl, ⟨⟨_, rfl, wke_refl _, rfl⟩, trivial⟩, rfl⟩
theorem bxR_len {s : Sp} (hs : SpOk s) (h : bxE s = 0) : (bxR s).length = s.q.g.n := by
 unfold bxE at h
 unfold bxR
 split at h
 ·
  cases h
 ·
  rename_i h'; rw [if_neg h']; exact bx_len hs _
theorem bxR_b {s : Sp} (hs : SpOk s) : IvB (bxR s) := by
 unfold bxR
 split
 ·
  intro v hv; cases hv
 ·
  have := bx_b hs s.path.length
  rw [List.take_length] at this; exact this
theorem lx_bisect {s : Sp} {pt : List Rat} {u : Nat} {l : List Nat} (hs : SpOk s) (ho : openS s = u :: l) :
  LX Tryz.prog 44 [.a (.ptr 0 0)] (chH s pt) fun v H => v = dcV (bisS s) ∧ H = chH s pt := by
 have hpl := hs.pl; have hn1 := hs.q.g.n1; have hn2 := hs.q.g.n2
 have hfir : firS s = onD u := by rw [firS, ho]; rfl
 refine LX_run (m := 1) (n0 := 1) mix Tryz.func44 rfl rfl rfl rfl ?_
 conv => whnf
 refine .mk Nat (fun i => ⟨[(19, vl (.int .i64 i)), (18, vl (.int .i64 (s.path.map Dc.D).length)), (17, .a (.d (dcsD s.path))), (3, vl (.int .i64 (cntI (s.path.take i)))), (2, .a (.ptr 1 0)), (0, .a (.ptr 0 0))], [(0, .box 95 (chA s pt)), (1, .box 59 [.d (.lit (.int .i64 0)), .d (.lit (.int .i64 0)), .d (.lit (.bool false)), .d (.nat 0), .d (.nat 0)])], 2⟩) (fun i => i ≤ s.path.length) (fun i => s.path.length - i) 0 Wk.go (zL_ _) fun i hi => ?_
 conv => whnf
 conv => whnf
 refine bs (fun h1 => ?_) (fun h1 => ?_)
 ·
  conv => whnf
  have h1' : i < s.path.length := by simpa using h1
  obtain ⟨d, hd⟩ := at_some h1'
  have hc := cntI_succ hd
  have hcl := cntI_le s.path i
  generalize cntI (s.path.take i) = m at *
  refine .mk (i) (d.D) (rfl) (at_map hd) ?_
  conv => whnf
  conv => whnf
  refine bs (fun h2 => ?_) (fun h2 => ?_)
  ·
   conv => whnf
   exact ⟨i + 1, by rw [hc, if_pos (by simp [isIn]; left; simpa using h2)]; exact Wk.go, h1', by omega⟩
  ·
   conv => whnf
   refine bs (fun h3 => ?_) (fun h3 => ?_)
   ·
    conv => whnf
    exact ⟨i + 1, by rw [hc, if_pos (by simp [isIn]; right; simpa using h3)]; exact Wk.go, h1', by omega⟩
   ·
    conv => whnf
    exact ⟨i + 1, by rw [hc, if_neg (by simp at h2 h3; simp [isIn, h2, h3])]; exact Wk.go, h1', by omega⟩
 ·
  conv => whnf
  have e : i = s.path.length := by simp at h1; omega
  subst e
  rw [List.take_length]
  refine .c (lx_box hs) ?_
  conv => whnf
  have hx := bxR_len hs
  have hxb := bxR_b hs
  refine bs (fun h2 => ?_) (fun h2 => ?_)
  ·
   conv => whnf
   refine .l [0] (lx_first ho) ?_
   conv => whnf
   exact ⟨_, _, ⟨by rw [bisS, if_pos (.inl h2), hfir], rfl⟩, vR_ _, rfl, ⟨⟨_, rfl, wke_refl _, rfl⟩, trivial⟩, rfl⟩
  ·
   conv => whnf
   refine bs (fun h3 => ?_) (fun h3 => ?_)
   ·
    conv => whnf
    refine .l [0] (lx_first ho) ?_
    conv => whnf
    exact ⟨_, _, ⟨by rw [bisS, if_pos (.inr (by simpa using h3)), hfir], rfl⟩, vR_ _, rfl, ⟨⟨_, rfl, wke_refl _, rfl⟩, trivial⟩, rfl⟩
   ·
    conv => whnf
    have h3' : bxE s = 0 := by simpa using h3
    have hc : ¬ (decide ((cntI s.path : Int) ≥ 4) = true ∨ bxE s ≠ 0) := by rw [h2]; simp [h3']
    specialize hx h3'
    have hdef : bisS s = if (wd (bxR s) (wTo (bxR s) (bxR s).length)).num.sign = 0 then firS s else ⟨3, wTo (bxR s) (bxR s).length, can (((ivAt (bxR s) (wTo (bxR s) (bxR s).length)).lo + (ivAt (bxR s) (wTo (bxR s) (bxR s).length)).hi) / ((2 : Int) : Rat))⟩ := by rw [bisS, if_neg hc]
    generalize bxR s = L at *
    have hL : 0 < L.length := by omega
    refine .mk Nat (fun j => ⟨[(53, vl (.int .i64 j)), (52, vl (.int .i64 (L.map Iv.D).length)), (9, vl (.int .i64 (wTo L j))), (8, .a (.fn (.func 83) [] [.ptr 2 0])), (6, .a (.ptr 2 0)), (2, .a (.ptr 1 0)), (0, .a (.ptr 0 0))], [(0, .box 95 (chA s pt)), (1, .box 59 [.d (.lit (.int .i64 0)), .d (.lit (.int .i64 0)), .d (.lit (.bool false)), .d (.nat 0), .d (.nat 0)]), (2, .box 51 [.d (ivsD L)])], 3⟩) (fun j => j ≤ L.length) (fun j => L.length - j) 0 Wk.go (zL_ _) fun j hj => ?_
    conv => whnf
    conv => whnf
    have hwl := wTo_lt L hL j hj
    refine bs (fun h4 => ?_) (fun h4 => ?_)
    ·
     conv => whnf
     have h4' : j < L.length := by simpa using h4
     refine .l [2] (lx_wd hxb h4') ?_
     conv => whnf
     refine .l [2] (lx_wd hxb hwl) ?_
     conv => whnf
     refine .c (lx_rcmp (.c ((wd_b hxb _).mono (by decide))) (.c ((wd_b hxb _).mono (by decide)))) ?_
     conv => whnf
     refine bs (fun h5 => ?_) (fun h5 => ?_)
     ·
      conv => whnf
      exact ⟨j + 1, by rw [wTo, if_pos h5]; exact Wk.go, h4', by omega⟩
     ·
      conv => whnf
      exact ⟨j + 1, by rw [wTo, if_neg (by rw [h5]; exact Bool.false_ne_true)]; exact Wk.go, h4', by omega⟩
    ·
     conv => whnf
     have e : j = L.length := by simp at h4; omega
     subst e
     generalize wTo L L.length = m at *
     have hv := ivAt_b hxb m
     refine .l [2] (lx_wd hxb hwl) ?_
     conv => whnf
     refine .c (lx_rsign (.c ((wd_b hxb _).mono (by decide)))) ?_
     conv => whnf
     refine bs (fun h6 => ?_) (fun h6 => ?_)
     ·
      conv => whnf
      refine .l [0] (lx_first ho) ?_
      conv => whnf
      exact ⟨_, _, ⟨by rw [hdef, if_pos (by simpa using h6), hfir], rfl⟩, vR_ _, rfl, ⟨⟨_, rfl, wke_refl _, rfl⟩, trivial⟩, rfl⟩
     ·
      conv => whnf
      refine .mk (m) ((ivAt L m).D) (rfl) (at_map (ivAt_some hwl)) ?_
      conv => whnf
      conv => whnf
      refine .mk (m) ((ivAt L m).D) (rfl) (at_map (ivAt_some hwl)) ?_
      conv => whnf
      conv => whnf
      refine .c (lx_radd (.c (hv.1.mono (by decide))) (.c (hv.2.mono (by decide)))) ?_
      conv => whnf
      refine .c (lx_rof (z := 2) (by decide) (by decide)) ?_
      conv => whnf
      refine .c (lx_rdiv (b := ((2 : Int) : Rat)) (by decide) (.c ((hv.1.add hv.2).mono (by decide))) (.c ((Bt.int (k := 2) (by decide)).mono (by decide)))) ?_
      conv => whnf
      refine .mk (by kernel_rfl) ?_
      conv => whnf
      exact ⟨_, _, ⟨by rw [hdef, if_neg (by simpa using h6)], rfl⟩, vR_ _, rfl, ⟨⟨_, rfl, wke_refl _, rfl⟩, trivial⟩, rfl⟩
theorem lx_further0 {s : Sp} {pt : List Rat} {u : Nat} {l : List Nat} (hs : SpOk s) (ho : openS s = u :: l) (hp : pt.length ≠ s.q.g.n + s.q.g.us.length) (hpl : pt.length ≤ 1000000) :
  LX Tryz.prog 45 [.a (.ptr 0 0)] (chH s pt) fun v H => v = dcV (onD (gMost (gapS s) (openS s))) ∧ H = chH s pt := by
 refine LX_run (m := 1) (n0 := 1) mix Tryz.func45 rfl rfl rfl rfl ?_
 conv => whnf
 refine .c (lx_gvars hs.q.g) ?_
 conv => whnf
 refine bT (by rw [List.length_map]; simp; omega) ?_
 conv => whnf
 refine .mk (by kernel_rfl) ?_
 conv => whnf
 refine .l [0] (lx_widest hs ho) ?_
 conv => whnf
 exact ⟨_, _, ⟨rfl, rfl⟩, vR_ _, rfl, ⟨⟨_, rfl, wke_refl _, rfl⟩, trivial⟩, rfl⟩
def dc0 : Dc := ⟨0, 0, ⟨false, limbs 0, limbs 0⟩⟩
def csE (s : Sp) (r : Int) : Int := if r < 0 ∨ 3 < r then 1 else if (openS s).isEmpty then 10 else 0
def csD (s : Sp) (fd : Dc) (r : Int) : Dc := if csE s r ≠ 0 then dc0 else if r = 0 then firS s else if r = 1 then onD (gMost (gapS s) (openS s)) else if r = 2 then bisS s else fd
theorem lx_choose {s : Sp} {pt : List Rat} {fd : Dc} {r : Int} (hs : SpOk s) (hpl : pt.length ≤ 1000000)
  (hf : ∀ u l, openS s = u :: l → LX Tryz.prog 45 [.a (.ptr 0 0)] (chH s pt) fun v H => v = dcV fd ∧ H = chH s pt) :
  LV Tryz.prog 16 [.agg s.A, .a (.d (rqsD pt)), vl (.int .i64 r)] (.tup [.g (csD s fd r).A, .s (.d (.lit (.int .i64 (csE s r))))]) := by
 by_cases hr : r < 0 ∨ 3 < r
 ·
  have h1 : csE s r = 1 := by rw [csE, if_pos hr]
  refine LX_run (m := 0) (n0 := 0) mix Tryz.func16 rfl rfl rfl rfl ?_
  conv => whnf
  refine .c (lx_quvalid hs.q) ?_
  conv => whnf
  repeat' first | (refine bs (fun h => ?_) (fun h => ?_) <;> conv => whnf) | (refine Nc.mk (by kernel_rfl) ?_; conv => whnf)
  all_goals first
   | (exact .q ⟨by rw [h1, csD, if_pos (by rw [h1]; decide)]; rfl, rfl⟩)
   | (exfalso; simp at *; omega)
 ·
  have hul := openS_len s
  have hus := hs.q.g.u1
  refine LX_run (m := 0) (n0 := 0) mix Tryz.func16 rfl rfl rfl rfl ?_
  conv => whnf
  refine .c (lx_quvalid hs.q) ?_
  conv => whnf
  refine bF (decide_eq_false (by omega)) ?_
  conv => whnf
  refine bF (decide_eq_false (by omega)) ?_
  conv => whnf
  refine .l [] (lx_open) ?_
  conv => whnf
  refine .l [2] (lx_collect hs) ?_
  conv => whnf
  refine .mk (by kernel_rfl) ?_
  conv => whnf
  obtain ho | ⟨u, l, ho⟩ : openS s = [] ∨ ∃ u l, openS s = u :: l := by
   cases openS s with
   | nil => exact .inl rfl
   | cons u l => exact .inr ⟨u, l, rfl⟩
  ·
   have h1 : csE s r = 10 := by rw [csE, if_neg hr, ho]; rfl
   refine bT (by rw [List.length_map, ho]; rfl) ?_
   conv => whnf
   exact .q ⟨by rw [h1, csD, if_pos (by rw [h1]; decide)]; rfl, rfl⟩
  ·
   have h1 : csE s r = 0 := by rw [csE, if_neg hr, ho]; rfl
   have h2 : csD s fd r = if r = 0 then firS s else if r = 1 then onD (gMost (gapS s) (openS s)) else if r = 2 then bisS s else fd := by rw [csD, if_neg (by rw [h1]; decide)]
   have hfir : firS s = onD u := by rw [firS, ho]; rfl
   refine bF (by rw [List.length_map, ho]; simp; omega) ?_
   conv => whnf
   obtain rfl | rfl | rfl | rfl : r = 0 ∨ r = 1 ∨ r = 2 ∨ r = 3 := by omega
   all_goals conv => whnf
   ·
    refine .l [4] (lx_first ho) ?_
    conv => whnf
    exact .q ⟨by rw [h1, h2, if_pos rfl, hfir], rfl⟩
   ·
    refine .l [4] (lx_widest hs ho) ?_
    conv => whnf
    exact .q ⟨by rw [h1, h2, if_neg (by decide), if_pos rfl], rfl⟩
   ·
    refine .l [4] (lx_bisect hs ho) ?_
    conv => whnf
    exact .q ⟨by rw [h1, h2, if_neg (by decide), if_neg (by decide), if_pos rfl], rfl⟩
   ·
    refine .l [4] (hf u l ho) ?_
    conv => whnf
    exact .q ⟨by rw [h1, h2, if_neg (by decide), if_neg (by decide), if_neg (by decide)], rfl⟩
theorem lx_choose0 {s : Sp} {r : Int} (hs : SpOk s) : LV Tryz.prog 16 [.agg s.A, .a (.d (.sl 3 [])), vl (.int .i64 r)] (.tup [.g (csD s (onD (gMost (gapS s) (openS s))) r).A, .s (.d (.lit (.int .i64 (csE s r))))]) :=
 lx_choose (pt := []) hs (zL_ _) fun u l ho => lx_further0 hs ho (by have := hs.q.g.n1; simp; omega) (zL_ _)
def cof : List Tm → Int → Rat
 | [], _ => 0
 | t :: ts, w => (if t.v = w then t.q else 0) + cof ts w
theorem cof_app (a b : List Tm) (w : Int) : cof (a ++ b) w = cof a w + cof b w := by
 induction a with
 | nil => simp [cof, Rat.zero_add]
 | cons t a ih => simp only [List.cons_append, cof, ih, Rat.add_assoc]
def nz1 (t : Tm) : List Tm := if t.q = 0 then [] else [t]
theorem cof_nz1 (t : Tm) (w : Int) : cof (nz1 t) w = if t.v = w then t.q else 0 := by
 unfold nz1
 split
 ·
  rename_i h; simp [cof, h]
 ·
  simp [cof, Rat.add_zero]
def ins (v : Int) (c : Rat) : List Tm → List Tm
 | [] => nz1 ⟨v, c⟩
 | t :: ts => if t.v = v then nz1 ⟨v, t.q + c⟩ ++ ts else if v < t.v then nz1 ⟨v, c⟩ ++ t :: ts else t :: ins v c ts
theorem cof_ins (v : Int) (c : Rat) (ts : List Tm) (w : Int) : cof (ins v c ts) w = cof ts w + if v = w then c else 0 := by
 induction ts with
 | nil => simp [ins, cof_nz1, cof, Rat.zero_add]
 | cons t ts ih =>
   simp only [ins]
   split
   ·
    rename_i h
    rw [cof_app, cof_nz1, cof, h]
    split <;> grind
   ·
    split
    ·
     rw [cof_app, cof_nz1]; grind
    ·
     simp only [cof, ih, Rat.add_assoc]
def TsOk (n : Int) : Int → List Tm → Prop
 | _, [] => True
 | lo, t :: ts => lo ≤ t.v ∧ t.v < n ∧ t.q ≠ 0 ∧ TsOk n (t.v + 1) ts
theorem TsOk.lo {n lo lo' : Int} {ts : List Tm} (h : TsOk n lo ts) (hl : lo' ≤ lo) : TsOk n lo' ts := by
 cases ts with
 | nil => trivial
 | cons t ts => exact ⟨by have := h.1; omega, h.2⟩
theorem TsOk.up {n n' : Int} {ts : List Tm} (hn : n ≤ n') : ∀ {lo : Int}, TsOk n lo ts → TsOk n' lo ts := by
 induction ts with
 | nil => intros; trivial
 | cons t ts ih => exact fun h => ⟨h.1, by have := h.2.1; omega, h.2.2.1, ih h.2.2.2⟩
theorem TsOk.nz {n lo v : Int} {q : Rat} {ts : List Tm} (h : TsOk n (v + 1) ts) (h1 : lo ≤ v) (h2 : v < n) : TsOk n lo (nz1 ⟨v, q⟩ ++ ts) := by
 unfold nz1
 split
 ·
  exact h.lo (by omega)
 ·
  exact ⟨h1, h2, by assumption, h⟩
theorem TsOk.ins {n v : Int} {c : Rat} (h2 : v < n) {ts : List Tm} : ∀ {lo : Int}, TsOk n lo ts → lo ≤ v → TsOk n lo (Lf.ins v c ts) := by
 induction ts with
 | nil =>
   intro lo h h1
   have := TsOk.nz (q := c) (lo := lo) (show TsOk n (v + 1) [] from trivial) h1 h2
   rwa [List.append_nil] at this
 | cons t ts ih =>
   intro lo h h1
   simp only [Lf.ins]
   split
   ·
    rename_i e; exact TsOk.nz (e ▸ h.2.2.2) h1 h2
   ·
    split
    ·
     exact TsOk.nz ⟨by omega, h.2⟩ h1 h2
    ·
     exact ⟨h.1, h.2.1, h.2.2.1, ih h.2.2.2 (by omega)⟩
theorem TsOk.cof_lt {n : Int} {ts : List Tm} : ∀ {lo w : Int}, TsOk n lo ts → w < lo → cof ts w = 0 := by
 induction ts with
 | nil => intros; rfl
 | cons t ts ih =>
   intro lo w h hw
   have := h.1
   rw [cof, if_neg (by omega), ih h.2.2.2 (by omega), Rat.add_zero]
theorem TsOk.cof_mem {n : Int} {ts : List Tm} : ∀ {lo : Int}, TsOk n lo ts → ∀ t ∈ ts, cof ts t.v = t.q ∧ lo ≤ t.v ∧ t.v < n ∧ t.q ≠ 0 := by
 induction ts with
 | nil => intro lo h t ht; cases ht
 | cons s ts ih =>
   intro lo h t ht
   have h1 := h.1
   rcases List.mem_cons.1 ht with rfl | ht
   ·
    exact ⟨by rw [cof, if_pos rfl, h.2.2.2.cof_lt (by omega), Rat.add_zero], h.1, h.2.1, h.2.2.1⟩
   ·
    obtain ⟨k1, k2, k3, k4⟩ := ih h.2.2.2 t ht
    exact ⟨by rw [cof, if_neg (by omega), k1, Rat.zero_add], by omega, k3, k4⟩
theorem TsOk.len {n : Int} {ts : List Tm} : ∀ {lo : Int}, TsOk n lo ts → lo ≤ n → (ts.length : Int) ≤ n - lo := by
 induction ts with
 | nil => intro lo h hn; simp; omega
 | cons t ts ih =>
   intro lo h hn
   have := ih h.2.2.2 (by have := h.2.1; omega)
   have := h.1; have := h.2.1
   simp only [List.length_cons]; omega
theorem TsOk.next {n : Int} {ts : List Tm} : ∀ {lo : Int}, TsOk n lo ts → ∀ (i : Nat) (t u : Tm), ts[i]? = some t → ts[i + 1]? = some u → t.v < u.v := by
 induction ts with
 | nil => intro lo h i t u h1; simp at h1
 | cons s ts ih =>
   intro lo h i t u h1 h2
   cases i with
   | zero =>
     simp at h1 h2
     subst h1
     cases ts with
     | nil => simp at h2
     | cons r ts => simp at h2; subst h2; have := h.2.2.2.1; omega
   | succ i => exact ih h.2.2.2 i t u (by simpa using h1) (by simpa using h2)
structure FB (k : Nat) (n : Int) (f : Af) : Prop where
 ts : TsOk n 0 f.ts
 co : ∀ w, Bt k (cof f.ts w)
 c : Bt k f.c
theorem FB.ok {k : Nat} {n : Int} {f : Af} (h : FB k n f) (hk : k ≤ 3000000000) (h0 : 0 ≤ n) (hn : n ≤ 1000000) : AfOk f n := by
 refine ⟨fun i t ht => ?_, h.ts.next, h.c.mono hk, ?_⟩
 ·
  obtain ⟨k1, k2, k3, k4⟩ := h.ts.cof_mem t (mG_ ht)
  exact ⟨k2, k3, k4, k1 ▸ (h.co t.v).mono hk⟩
 ·
  have := h.ts.len h0; omega
theorem FB.tm {k : Nat} {n : Int} {f : Af} (h : FB k n f) : ∀ t ∈ f.ts, 0 ≤ t.v ∧ t.v < n ∧ t.q ≠ 0 ∧ Bt k t.q := fun t ht =>
 let ⟨k1, k2, k3, k4⟩ := h.ts.cof_mem t ht; ⟨k2, k3, k4, k1 ▸ h.co t.v⟩
theorem FB.up {k k' : Nat} {n n' : Int} {f : Af} (h : FB k n f) (hk : k ≤ k') (hn : n ≤ n') : FB k' n' f := ⟨h.ts.up hn, fun w => (h.co w).mono hk, h.c.mono hk⟩
def plusS (f : Af) (v : Int) (c : Rat) : Af := ⟨ins v c f.ts, f.c⟩
def addS (f g : Af) : Af := ⟨g.ts.foldl (fun a t => ins t.v t.q a) f.ts, f.c + g.c⟩
def scaleS (f : Af) (c : Rat) : Af := ⟨f.ts.flatMap fun t => nz1 ⟨t.v, t.q * c⟩, f.c * c⟩
def subS (f g : Af) : Af := addS f (scaleS g ((-1 : Int) : Rat))
def varS (v : Int) : Af := ⟨[⟨v, ((1 : Int) : Rat)⟩], 0⟩
def numS (c : Rat) : Af := ⟨[], c⟩
theorem cof_fold (b : List Tm) (w : Int) : ∀ a : List Tm, cof (b.foldl (fun a t => ins t.v t.q a) a) w = cof a w + cof b w := by
 induction b with
 | nil => intro a; simp [cof, Rat.add_zero]
 | cons t b ih => intro a; rw [List.foldl_cons, ih, cof_ins, cof, Rat.add_assoc]
theorem ok_fold {n : Int} {b : List Tm} (hb : ∀ t ∈ b, 0 ≤ t.v ∧ t.v < n) : ∀ {a : List Tm}, TsOk n 0 a → TsOk n 0 (b.foldl (fun a t => ins t.v t.q a) a) := by
 induction b with
 | nil => intro a h; exact h
 | cons t b ih => intro a h; exact ih (fun t ht => hb t (by simp [ht])) (h.ins (hb t (by simp)).2 (hb t (by simp)).1)
theorem FB.add {k l : Nat} {n : Int} {f g : Af} (h : FB k n f) (h' : FB l n g) : FB (k + l + 1) n (addS f g) :=
 ⟨ok_fold (fun t ht => let h := h'.tm t ht; ⟨h.1, h.2.1⟩) h.ts, fun w => by rw [addS, cof_fold]; exact (h.co w).add (h'.co w), h.c.add h'.c⟩
theorem cof_scale (c : Rat) (w : Int) : ∀ ts : List Tm, cof (ts.flatMap fun t => nz1 ⟨t.v, t.q * c⟩) w = cof ts w * c
 | [] => by simp [cof]
 | t :: ts => by
   rw [List.flatMap_cons, cof_app, cof_nz1, cof_scale c w ts, cof, Rat.add_mul]
   congr 1
   split <;> simp
theorem ok_scale {n : Int} (c : Rat) : ∀ {ts : List Tm} {lo : Int}, TsOk n lo ts → TsOk n lo (ts.flatMap fun t => nz1 ⟨t.v, t.q * c⟩)
 | [], _, _ => trivial
 | t :: ts, lo, h => by
   rw [List.flatMap_cons]
   exact TsOk.nz (ok_scale c h.2.2.2) h.1 h.2.1
theorem FB.scale {k l : Nat} {n : Int} {f : Af} {c : Rat} (h : FB k n f) (hc : Bt l c) : FB (k + l) n (scaleS f c) :=
 ⟨ok_scale c h.ts, fun w => by rw [scaleS, cof_scale]; exact (h.co w).mul hc, h.c.mul hc⟩
theorem FB.num {k : Nat} {n : Int} {c : Rat} (h : Bt k c) : FB k n (numS c) := ⟨trivial, fun w => bt0 _, h⟩
theorem FB.var {n v : Int} (h : 0 ≤ v) (h2 : v < n) : FB 0 n (varS v) := by
 have h1 : Bt 0 ((1 : Int) : Rat) := Bt.int (by decide)
 refine ⟨⟨h, h2, by show ((1 : Int) : Rat) ≠ 0; decide, trivial⟩, fun w => ?_, bt0 _⟩
 rw [varS, cof, cof, Rat.add_zero]
 split
 ·
  exact h1
 ·
  exact bt0 _
theorem FB.sub {k l : Nat} {n : Int} {f g : Af} (h : FB k n f) (h' : FB l n g) : FB (k + l + 1) n (subS f g) :=
 h.add (h'.scale (l := 0) (Bt.int (by decide)))
theorem FB.plus {k l : Nat} {n : Int} {f : Af} {v : Int} {c : Rat} (h : FB k n f) (h0 : 0 ≤ v) (h1 : v < n) (hc : Bt l c) : FB (k + l + 1) n (plusS f v c) :=
 ⟨h.ts.ins h1 h0, fun w => by
  rw [plusS, cof_ins]
  split
  ·
   exact (h.co w).add hc
  ·
   exact (h.co w).add (bt0 l), h.c.mono (by omega)⟩
def plStep (v : Int) (c : Rat) (a : List Tm × Bool) (t : Tm) : List Tm × Bool :=
 if t.v = v then (a.1 ++ nz1 ⟨t.v, t.q + c⟩, true)
 else if a.2 = false ∧ v < t.v then (a.1 ++ nz1 ⟨v, c⟩ ++ nz1 t, true) else (a.1 ++ nz1 t, a.2)
def plTo (v : Int) (c : Rat) (ts : List Tm) (i : Nat) : List Tm × Bool := (ts.take i).foldl (plStep v c) ([], false)
def plEnd (v : Int) (c : Rat) (a : List Tm × Bool) : List Tm := if a.2 = false then a.1 ++ nz1 ⟨v, c⟩ else a.1
theorem plTo_succ {v : Int} {c : Rat} {ts : List Tm} {i : Nat} {t : Tm} (h : ts[i]? = some t) : plTo v c ts (i + 1) = plStep v c (plTo v c ts i) t := by
 unfold plTo
 rw [take_snoc h, List.foldl_append]; rfl
theorem nz1_ne {t : Tm} (h : t.q ≠ 0) : nz1 t = [t] := if_neg h
theorem pl_done {n v : Int} {c : Rat} : ∀ {ts : List Tm} {lo : Int} (o : List Tm), TsOk n lo ts → v < lo → ts.foldl (plStep v c) (o, true) = (o ++ ts, true)
 | [], _, o, _, _ => by simp
 | t :: ts, lo, o, h, hv => by
   have h1 := h.1
   rw [List.foldl_cons, plStep, if_neg (by omega), if_neg (by simp), nz1_ne h.2.2.1, pl_done _ h.2.2.2 (by omega)]
   simp
theorem pl_all {n v : Int} {c : Rat} : ∀ {ts : List Tm} {lo : Int} (o : List Tm), TsOk n lo ts → plEnd v c (ts.foldl (plStep v c) (o, false)) = o ++ ins v c ts
 | [], _, o, _ => by simp [plEnd, ins]
 | t :: ts, lo, o, h => by
   rw [List.foldl_cons, plStep, ins]
   split
   ·
    rename_i e
    rw [pl_done _ h.2.2.2 (by omega), plEnd, e]
    simp
   ·
    split
    ·
     rename_i e h1
     rw [pl_done _ h.2.2.2 (by omega), plEnd, if_pos h1.2, nz1_ne h.2.2.1]
     simp
    ·
     rename_i e h1
     rw [pl_all _ h.2.2.2, if_neg (fun h2 => h1 ⟨rfl, h2⟩), nz1_ne h.2.2.1]
     simp
theorem pl_eq {n v : Int} {c : Rat} {ts : List Tm} (h : TsOk n 0 ts) : plEnd v c (plTo v c ts ts.length) = ins v c ts := by
 rw [plTo, List.take_length]
 exact pl_all [] h
theorem Cn.o {P : Program} {F : FuncId} {vs : List V} {H : List (Nat × Ent)} {n : Nat} {K : V → List (Nat × Ent) → List Nat → Nat → Prop} {v : V} {Hs H1 : List (Nat × Ent)} (ks : List Nat) (hc : LX P F (vs.map (renV fun k => ks.idxOf k)) Hs fun v' H' => v' = v ∧ H' = H1)
  (hk : fX (renV (back ks n) v) fun v => fHs (H1.map fun p => (back ks n p.1, p.2)) fun sets => K v sets (ks ++ H1.map fun p => back ks n p.1) (n + H1.length)) (he : entT P F = true := by rfl)
  (hl : lendFrom (look H) 0 ks = some Hs := by rfl) (hok : okF ks n vs H H1 = true := by rfl) : Cn P F vs H n K := by
 unfold okF at hok
 simp only [Bool.and_eq_true, Bool.or_eq_true, decide_eq_true_eq, List.all_eq_true, Nat.blt_eq, List.contains_eq_mem] at hok
 obtain ⟨⟨⟨o1, o2⟩, o3⟩, o4⟩ := hok
 refine .lend ks _ Hs _ he hc (wks_refl vs) o1 o2 hl o3 fun v' H1' hR => ?_
 obtain ⟨rfl, rfl⟩ := hR
 exact ⟨List.all_eq_true.2 fun p hp => (o4 p hp).1, fun p hp hle => (o4 p hp).2.elim (fun h => absurd h (by omega)) fun h => by simpa using h, hk⟩
theorem All2.set {α β : Type} {R : α → β → Prop} : ∀ {xs : List α} {ys : List β} {j : Nat} {x y : α}, All2 R xs ys → xs[j]? = some x → (∀ v, R x v → R y v) → All2 R (xs.set j y) ys
 | [], [], _, _, _, _, h, _ => by simp at h
 | a :: xs, b :: ys, 0, x, y, k, h, f => by simp at h; subst h; exact ⟨f b k.1, k.2⟩
 | a :: xs, b :: ys, j + 1, x, y, k, h, f => ⟨k.1, All2.set k.2 (by simpa using h) f⟩
 | [], _ :: _, _, _, _, k, _, _ => k.elim
 | _ :: _, [], _, _, _, k, _, _ => k.elim
theorem relabel {γ : Gh} {h : Hp} {M : MS} {w : World} {b key j k : Nat} {t e : TypeId} {cs : List A} (r : Rel γ h M w) (hb : h b = some (.box t cs)) (hj : cs[j]? = some (.d (.lit (.slice none 0 0)))) (hk : h key = some (.arr e k 0)) (hg : γ key = .slice none 0 0) :
  Rel γ (over [(b, .box t (cs.set j (.own key k [])))] h) M w ∧ Stp γ h M w γ (over [(b, .box t (cs.set j (.own key k [])))] h) M w := by
 have hne : key ≠ b := by intro e1; subst e1; rw [hb] at hk; cases hk
 have ho : ∀ key' b' i, Owns γ (over [(b, .box t (cs.set j (.own key k [])))] h) key' b' i ↔ Owns γ h key' b' i := fun key' b' i => by
  by_cases e1 : key' = b
  ·
   subst e1; simp only [Owns, over_same, hb]
  ·
   exact owns_congr rfl (over_other e1)
 have hl : ∀ key', live (over [(b, .box t (cs.set j (.own key k [])))] h key') = live (h key') := fun key' => by
  by_cases e1 : key' = b
  ·
   subst e1; rw [over_same, hb]; rfl
  ·
   rw [over_other e1]
 have s : Stp γ h M w γ (over [(b, .box t (cs.set j (.own key k [])))] h) M w := by
  refine ⟨rfl, rfl, rfl, lR_ _, fun _ _ _ k => k, fun _ _ _ => rfl, fun _ _ k _ => k, fun key' b' i h1 _ => ⟨key', (ho _ _ _).1 h1⟩, fun key' e' he => ?_⟩
  by_cases e1 : key' = b
  ·
   subst e1; rw [hb] at he; injection he with he; subst he
   exact ⟨_, over_same, trivial, .inl rfl⟩
  ·
   exact ⟨e', by rw [over_other e1]; exact he, Goes.refl _, .inl rfl⟩
 refine ⟨⟨fun key' e' he => ?_, fun key' b' i h1 => r.own key' b' i ((ho _ _ _).1 h1), fun k1 k2 b' l1 l2 b1 b2 => r.inj k1 k2 b' (by rw [← hl]; exact l1) (by rw [← hl]; exact l2) b1 b2, r.u32, r.dom, r.glb⟩, s⟩
 by_cases e1 : key' = b
 ·
  subst e1
  rw [over_same] at he; injection he with he; subst he
  obtain ⟨g, vs, k1, k2, k3⟩ := r.ent _ _ hb
  refine ⟨g, vs, k1, k2, All2.set (All2.imp (fun x v k => RdA.stp s k) k3) hj fun v hv => ?_⟩
  rw [show v = .slice none 0 0 from lit_inv hv]
  refine ⟨nil_ok k, by rw [over_other hne, hk]; rfl, fun e' k' n he => ?_⟩
  rw [over_other hne, hk] at he; injection he with he; injection he with _ _ he; subst he
  exact ⟨lR_ _, fun _ => hg.symm⟩
 ·
  rw [over_other e1] at he
  exact EntR.stp s (r.ent key' e' he) rfl fun _ _ _ => rfl
theorem Wk.ownB {m : Nat} {s : St} (b key j : Nat) (e : TypeId) (k : Nat) {t : TypeId} {cs : List A} (hb : look s.H b = some (.box t cs)) (hj : cs[j]? = some (.d (.lit (.slice none 0 0)))) (hk : look s.H key = none) :
  Wk m s ⟨s.T, (b, .box t (cs.set j (.own key k []))) :: (key, .arr e k 0) :: s.H, s.n⟩ := by
 intro N γ0 h0 M0 w0 a w hm hd hS
 obtain ⟨γ, M, k1, k2, k3, k4, k5⟩ := hS
 have hne : b ≠ key := by intro e1; subst e1; rw [hb] at hk; cases hk
 obtain ⟨q1, q2⟩ := new_nil k1 hk e k
 obtain ⟨q3, q4⟩ := relabel (b := b) (j := j) (k := k) (cs := cs) q1 (by rw [over_other hne]; exact hb) hj over_same upd_same
 have q5 := Stp.trans q2 q4 k1.dom
 have e1 : look ((b, Ent.box t (cs.set j (.own key k []))) :: (key, Ent.arr e k 0) :: s.H) = over [(b, .box t (cs.set j (.own key k [])))] (over [(key, .arr e k 0)] (look s.H)) := by
  rw [← look_app [(key, Ent.arr e k 0)] s.H]; exact look_app [(b, _)] ((key, Ent.arr e k 0) :: s.H)
 refine ⟨_, M, by rw [e1]; exact q3, ⟨k2.1, fun d' v' hv' => ?_⟩, k3, k4, by rw [e1]; exact k5.trans q5 hd⟩
 obtain ⟨x, y1, y2⟩ := k2.2 d' v' hv'
 exact ⟨x, y1, by rw [e1]; exact RdV.stp q5 y2⟩
abbrev tmH (l : List Tm) : List (Nat × Ent) := [(0, .arr 66 4 (l.map Tm.D).length)]
theorem lx_nonzero {l : List Tm} {t : Tm} (hl : l.length ≤ 1000000) (ht : Sz t.q) :
  LX Tryz.prog 150 [.a (.own 0 4 (l.map Tm.D)), .agg t.A] (tmH l) fun v H => v = .a (.own 0 4 ((l ++ nz1 t).map Tm.D)) ∧ H = tmH (l ++ nz1 t) := by
 refine LX_run (m := 1) (n0 := 1) mix Tryz.func150 rfl rfl rfl rfl ?_
 conv => whnf
 refine .c (lx_zsign (.c ht)) ?_
 conv => whnf
 refine bs (fun h1 => ?_) (fun h1 => ?_)
 ·
  conv => whnf
  have h0 : t.q = 0 := by simpa [Int.sign_eq_zero_iff_zero] using h1
  have e : l ++ nz1 t = l := by rw [nz1, if_pos h0, List.append_nil]
  rw [e]
  exact ⟨_, _, ⟨rfl, rfl⟩, vR_ _, rfl, ⟨⟨_, rfl, wke_refl _, rfl⟩, trivial⟩, rfl⟩
 ·
  conv => whnf
  have h0 : ¬ t.q = 0 := by simpa [Int.sign_eq_zero_iff_zero] using h1
  have e : l ++ nz1 t = l ++ [t] := by rw [nz1, if_neg h0]
  rw [e]
  refine .mk ((l ++ [t]).map Tm.D) rfl (by rw [List.map_append]; rfl) (by simp; omega) ?_
  conv => whnf
  exact ⟨_, _, ⟨rfl, rfl⟩, vR_ _, rfl, ⟨⟨_, rfl, wke_refl _, rfl⟩, trivial⟩, rfl⟩
theorem lx_plus {f : Af} {n v : Int} {c : Rat} {k l : Nat} (h : FB k n f) (hc : Bt l c) (h0 : 0 ≤ v) (hv : v < n) (hn : n ≤ 100000) (hk : k + l + 1 ≤ 3000000000) :
  LV Tryz.prog 210 [.agg f.A, vl (.int .i64 v), .agg (can c).A] (.agg (plusS f v c).A) := by
 have hlen := h.ts.len (by omega)
 have hcz : Sz c := hc.mono (by omega)
 have hol : ∀ i, (plTo v c f.ts i).1.length ≤ 2 * i + 1 := fun i => by
  induction i with
  | zero => simp [plTo]
  | succ i ih =>
    rcases Nat.lt_or_ge i f.ts.length with hi | hi
    ·
     obtain ⟨t, ht⟩ := at_some hi
     have hz : ∀ t : Tm, (nz1 t).length ≤ 1 := fun t => by unfold nz1; split <;> simp
     rw [plTo_succ ht, plStep]
     have z1 := hz ⟨t.v, t.q + c⟩; have z2 := hz ⟨v, c⟩; have z3 := hz t
     repeat' split
     all_goals (simp only [List.length_append]; omega)
    ·
     have : plTo v c f.ts (i + 1) = plTo v c f.ts i := by rw [plTo, plTo, List.take_of_length_le (by omega), List.take_of_length_le (by omega)]
     rw [this]; omega
 refine LX_run (m := 0) (n0 := 0) mix Tryz.func210 rfl rfl rfl rfl ?_
 conv => whnf
 refine .mk Nat (fun i => ⟨[(9, vl (.int .i64 i)), (8, vl (.bool (plTo v c f.ts i).2)), (7, .a (.own 3 4 ((plTo v c f.ts i).1.map Tm.D))), (6, .a (.ptr 2 0)), (5, .a (.ptr 1 0)), (3, .a (.ptr 0 0)), (1, vl (.int .i64 v))],
  [(0, .box 39 f.A), (1, .box 37 (can c).A), (2, .box 39 [.d (.lit (.slice none 0 0)), .d (.lit (.bool false)), .d (.nat 0), .d (.nat 0)]), (3, .arr 66 4 ((plTo v c f.ts i).1.map Tm.D).length)], 4⟩) (fun i => i ≤ f.ts.length) (fun i => f.ts.length - i) 0
  (Wk.trans (Wk.own 7 3 66 4 rfl rfl (zL_ _)) Wk.go) (zL_ _) fun i hi => ?_
 have hsucc := fun t ht => plTo_succ (v := v) (c := c) (ts := f.ts) (i := i) (t := t) ht
 have hoi := hol i
 have hen : i = f.ts.length → plEnd v c (plTo v c f.ts i) = ins v c f.ts := fun e => by rw [e]; exact pl_eq h.ts
 generalize plTo v c f.ts i = a at *
 obtain ⟨o, done⟩ := a
 simp only at hoi
 have hz : ∀ t : Tm, (nz1 t).length ≤ 1 := fun t => by unfold nz1; split <;> simp
 have z2 := hz ⟨v, c⟩
 have fin : i = f.ts.length → f.ts.length = i := fun e => e.symm
 cases done
 all_goals conv => whnf
 ·
  refine bs (fun h1 => ?_) (fun h1 => ?_)
  ·
   conv => whnf
   have h1' : i < f.ts.length := by simpa using h1
   obtain ⟨t, ht⟩ := at_some h1'
   obtain ⟨t1, t2, t3, t4⟩ := h.tm t (mG_ ht)
   have z3 := hz t
   have tz : Sz t.q := t4.mono (by omega)
   have tc : Sz (t.q + c) := (t4.add hc).mono (by omega)
   specialize hsucc t ht
   refine .mk (i) (t.D) (rfl) (at_map ht) ?_
   conv => whnf
   conv => whnf
   refine bs (fun h2 => ?_) (fun h2 => ?_)
   ·
    conv => whnf
    have e2 : t.v = v := by simpa using h2
    refine .c (lx_zadd (.c tz) (.c hcz)) ?_
    conv => whnf
    refine Cn.o [3] (lx_nonzero (l := o) (t := ⟨t.v, t.q + c⟩) (by omega) tc) ?_
    conv => whnf
    exact ⟨i + 1, by rw [hsucc, plStep, if_pos e2]; exact Wk.go, h1', by omega⟩
   ·
    conv => whnf
    have e2 : ¬ t.v = v := by simpa using h2
    refine bs (fun h3 => ?_) (fun h3 => ?_)
    ·
     conv => whnf
     have e3 : v < t.v := by simpa using h3
     refine .c (lx_zcanon (.c hcz)) ?_
     conv => whnf
     refine Cn.o [3] (lx_nonzero (l := o) (t := ⟨v, c⟩) (by omega) hcz) ?_
     conv => whnf
     refine Cn.o [3] (lx_nonzero (l := o ++ nz1 ⟨v, c⟩) (t := t) (by simp only [List.length_append]; omega) tz) ?_
     conv => whnf
     exact ⟨i + 1, by rw [hsucc, plStep, if_neg e2, if_pos ⟨rfl, e3⟩]; exact Wk.go, h1', by omega⟩
    ·
     conv => whnf
     have e3 : ¬ v < t.v := by simpa using h3
     refine Cn.o [3] (lx_nonzero (l := o) (t := t) (by omega) tz) ?_
     conv => whnf
     exact ⟨i + 1, by rw [hsucc, plStep, if_neg e2, if_neg (fun h => e3 h.2)]; exact Wk.go, h1', by omega⟩
  ·
   conv => whnf
   have e : i = f.ts.length := by simp at h1; omega
   have hh := hen e
   rw [plEnd, if_pos rfl] at hh
   refine .c (lx_zcanon (.c hcz)) ?_
   conv => whnf
   refine Cn.o [3] (lx_nonzero (l := o) (t := ⟨v, c⟩) (by omega) hcz) ?_
   conv => whnf
   exact .s ⟨by rw [plusS, ← hh]; rfl, rfl⟩
 ·
  refine bs (fun h1 => ?_) (fun h1 => ?_)
  ·
   conv => whnf
   have h1' : i < f.ts.length := by simpa using h1
   obtain ⟨t, ht⟩ := at_some h1'
   obtain ⟨t1, t2, t3, t4⟩ := h.tm t (mG_ ht)
   have z3 := hz t
   have tz : Sz t.q := t4.mono (by omega)
   have tc : Sz (t.q + c) := (t4.add hc).mono (by omega)
   specialize hsucc t ht
   refine .mk (i) (t.D) (rfl) (at_map ht) ?_
   conv => whnf
   conv => whnf
   refine bs (fun h2 => ?_) (fun h2 => ?_)
   ·
    conv => whnf
    have e2 : t.v = v := by simpa using h2
    refine .c (lx_zadd (.c tz) (.c hcz)) ?_
    conv => whnf
    refine Cn.o [3] (lx_nonzero (l := o) (t := ⟨t.v, t.q + c⟩) (by omega) tc) ?_
    conv => whnf
    exact ⟨i + 1, by rw [hsucc, plStep, if_pos e2]; exact Wk.go, h1', by omega⟩
   ·
    conv => whnf
    have e2 : ¬ t.v = v := by simpa using h2
    refine Cn.o [3] (lx_nonzero (l := o) (t := t) (by omega) tz) ?_
    conv => whnf
    exact ⟨i + 1, by rw [hsucc, plStep, if_neg e2, if_neg (fun h => Bool.noConfusion h.1)]; exact Wk.go, h1', by omega⟩
  ·
   conv => whnf
   have e : i = f.ts.length := by simp at h1; omega
   have hh := hen e
   rw [plEnd, if_neg (fun h => Bool.noConfusion h)] at hh
   exact .s ⟨by rw [plusS, ← hh]; rfl, rfl⟩
theorem lx_zvar {v : Int} : LV Tryz.prog 202 [vl (.int .i64 v)] (.agg (varS v).A) := by
 refine LX_run (m := 0) (n0 := 0) mix Tryz.func202 rfl rfl rfl rfl ?_
 conv => whnf
 refine .c (lx_zof (z := 1) (by decide) (by decide)) ?_
 conv => whnf
 exact .s ⟨by show _ = V.agg (A.d _ :: (can 0).A); rw [can0]; rfl, rfl⟩
theorem TsOk.take {n : Int} : ∀ {ts : List Tm} {lo : Int} (i : Nat), TsOk n lo ts → TsOk n lo (ts.take i)
 | [], _, i, _ => by simp [TsOk]
 | t :: ts, _, 0, _ => trivial
 | t :: ts, lo, i + 1, h => ⟨h.1, h.2.1, h.2.2.1, TsOk.take i h.2.2.2⟩
theorem TsOk.cof_b {n : Int} {k : Nat} (w : Int) : ∀ {ts : List Tm} {lo : Int}, TsOk n lo ts → (∀ t ∈ ts, Bt k t.q) → Bt k (cof ts w)
 | [], _, _, _ => bt0 k
 | t :: ts, lo, h, hb => by
   rw [cof]
   split
   ·
    rename_i e
    rw [h.2.2.2.cof_lt (by omega), Rat.add_zero]; exact hb t (by simp)
   ·
    rw [Rat.zero_add]; exact TsOk.cof_b w h.2.2.2 fun t ht => hb t (by simp [ht])
theorem FB.take {k : Nat} {n : Int} {f : Af} (h : FB k n f) (i : Nat) : FB k n ⟨f.ts.take i, f.c⟩ :=
 ⟨h.ts.take i, fun w => (h.ts.take i).cof_b w fun t ht => (h.tm t (List.mem_of_mem_take ht)).2.2.2, h.c⟩
def addTo (f g : Af) (i : Nat) : List Tm := (g.ts.take i).foldl (fun a t => ins t.v t.q a) f.ts
theorem lx_add {f g : Af} {n : Int} {k l : Nat} (h : FB k n f) (h' : FB l n g) (h0 : 0 ≤ n) (hn : n ≤ 100000) (hk : k + l + 1 ≤ 1000000000) : LV Tryz.prog 201 [.agg f.A, .agg g.A] (.agg (addS f g).A) := by
 have hlen := h'.ts.len h0
 refine LX_run (m := 0) (n0 := 0) mix Tryz.func201 rfl rfl rfl rfl ?_
 conv => whnf
 refine .c (lx_zadd (.c (h.c.mono (by omega))) (.c (h'.c.mono (by omega)))) ?_
 conv => whnf
 refine .mk (by kernel_rfl) ?_
 conv => whnf
 refine .mk Nat (fun i => ⟨[(6, vl (.int .i64 i)), (5, .a (.ptr 3 0)), (4, .a (.ptr 2 0)), (3, .a (.ptr 1 0))], [(1, .box 39 g.A), (2, .box 39 [.d (.lit (.slice none 0 0)), .d (.lit (.bool false)), .d (.nat 0), .d (.nat 0)]), (3, .box 39 (Af.A ⟨addTo f g i, f.c + g.c⟩))], 4⟩) (fun i => i ≤ g.ts.length) (fun i => g.ts.length - i) 0 Wk.go (zL_ _) fun i hi => ?_
 conv => whnf
 conv => whnf
 have hp : FB (k + l + 1) n ⟨addTo f g i, f.c + g.c⟩ := h.add (h'.take i)
 have hlp := hp.ts.len h0
 refine bs (fun h1 => ?_) (fun h1 => ?_)
 ·
  conv => whnf
  have h1' : i < g.ts.length := by simpa using h1
  obtain ⟨t, ht⟩ := at_some h1'
  obtain ⟨t1, t2, t3, t4⟩ := h'.tm t (mG_ ht)
  have e : addTo f g (i + 1) = ins t.v t.q (addTo f g i) := by rw [addTo, take_snoc ht, List.foldl_append]; rfl
  refine .mk (i) (t.D) (rfl) (at_map ht) ?_
  conv => whnf
  conv => whnf
  refine .mk (i) (t.D) (rfl) (at_map ht) ?_
  conv => whnf
  conv => whnf
  refine .c (lx_plus hp t4 t1 t2 hn (by omega)) ?_
  conv => whnf
  refine .mk (by kernel_rfl) ?_
  conv => whnf
  exact ⟨i + 1, by rw [e]; exact Wk.go, h1', by omega⟩
 ·
  conv => whnf
  have e : i = g.ts.length := by simp at h1; omega
  have e2 : addTo f g i = (addS f g).ts := by rw [addTo, e, List.take_length]; rfl
  simp only at hlp
  refine .mk ((addTo f g i).map Tm.D) rfl rfl (by simp; omega) ?_
  conv => whnf
  refine .mk (by kernel_rfl) ?_
  conv => whnf
  exact .s ⟨by rw [e2]; rfl, rfl⟩
def scTo (f : Af) (c : Rat) (i : Nat) : List Tm := (f.ts.take i).flatMap fun t => nz1 ⟨t.v, t.q * c⟩
theorem scTo_len (f : Af) (c : Rat) (i : Nat) : (scTo f c i).length ≤ i := by
 unfold scTo
 refine tL_ ?_ (List.length_take_le i f.ts)
 generalize f.ts.take i = l
 induction l with
 | nil => simp
 | cons t l ih =>
   have : (nz1 ⟨t.v, t.q * c⟩).length ≤ 1 := by unfold nz1; split <;> simp
   simp only [List.flatMap_cons, List.length_append, List.length_cons]; omega
theorem lx_scale {f : Af} {n : Int} {c : Rat} {k l : Nat} (h : FB k n f) (hc : Bt l c) (h0 : 0 ≤ n) (hn : n ≤ 100000) (hk : k + l ≤ 3000000000) : LV Tryz.prog 104 [.agg f.A, .agg (can c).A] (.agg (scaleS f c).A) := by
 have hlen := h.ts.len h0
 refine LX_run (m := 0) (n0 := 0) mix Tryz.func104 rfl rfl rfl rfl ?_
 conv => whnf
 refine .c (lx_zmul (.c (h.c.mono (by omega))) (.c (hc.mono (by omega)))) ?_
 conv => whnf
 refine .mk Nat (fun i => ⟨[(6, vl (.int .i64 i)), (5, .a (.ptr 3 0)), (4, .a (.ptr 2 0)), (3, .a (.ptr 1 0)), (2, .a (.ptr 0 0))], [(0, .box 39 f.A), (1, .box 37 (can c).A), (2, .box 39 [.d (.lit (.slice none 0 0)), .d (.lit (.bool false)), .d (.nat 0), .d (.nat 0)]),
  (3, .box 39 (.own 4 4 ((scTo f c i).map Tm.D) :: (can (f.c * c)).A)), (4, .arr 66 4 ((scTo f c i).map Tm.D).length)], 5⟩) (fun i => i ≤ f.ts.length) (fun i => f.ts.length - i) 0
  (Wk.trans (Wk.ownB 3 4 0 66 4 rfl rfl rfl) Wk.go) (zL_ _) fun i hi => ?_
 conv => whnf
 have hsl := scTo_len f c i
 refine bs (fun h1 => ?_) (fun h1 => ?_)
 ·
  conv => whnf
  have h1' : i < f.ts.length := by simpa using h1
  obtain ⟨t, ht⟩ := at_some h1'
  obtain ⟨t1, t2, t3, t4⟩ := h.tm t (mG_ ht)
  have e : scTo f c (i + 1) = scTo f c i ++ nz1 ⟨t.v, t.q * c⟩ := by rw [scTo, take_snoc ht, List.flatMap_append]; simp; rfl
  refine .mk (i) (t.D) (rfl) (at_map ht) ?_
  conv => whnf
  conv => whnf
  refine .mk (i) (t.D) (rfl) (at_map ht) ?_
  conv => whnf
  conv => whnf
  refine .c (lx_zmul (.c (t4.mono (by omega))) (.c (hc.mono (by omega)))) ?_
  conv => whnf
  refine Cn.o [4] (lx_nonzero (l := scTo f c i) (t := ⟨t.v, t.q * c⟩) (by omega) ((t4.mul hc).mono (by omega))) ?_
  conv => whnf
  refine .mk (by kernel_rfl) ?_
  conv => whnf
  exact ⟨i + 1, by rw [e]; exact Wk.go, h1', by omega⟩
 ·
  conv => whnf
  have e : i = f.ts.length := by simp at h1; omega
  have e2 : scTo f c i = (scaleS f c).ts := by rw [scTo, e, List.take_length]; rfl
  exact .s ⟨by rw [e2]; rfl, rfl⟩
abbrev bysD (raw : List Nat) : D := .sl 1 (raw.map fun b => [.lit (.int .u8 (b : Nat))])
abbrev fdH (raw : List Nat) (a : Nat) : List (Nat × Ent) := [(0, .box 194 [.d (bysD raw), .d (.lit (.int .i64 (a : Nat)))])]
structure RawOk (raw : List Nat) : Prop where
 len : raw.length ≤ 1000000
 by_ : ∀ b ∈ raw, b < 256
theorem lx_new2 {raw : List Nat} (h : RawOk raw) : LX Tryz.prog 140 [.a (.d (bysD raw))] [] fun v H => v = .a (.ptr 2 0) ∧ H = [(2, .box 194 [.d (bysD raw), .d (.lit (.int .i64 (0 : Nat)))])] := by
 have hl := h.len
 refine LX_run (m := 0) (n0 := 0) mix Tryz.func140 rfl rfl rfl rfl ?_
 conv => whnf
 refine .mk (raw.map fun b => [.lit (.int .u8 (b : Nat))]) rfl rfl (by simp; omega) ?_
 conv => whnf
 exact ⟨_, _, ⟨rfl, rfl⟩, vR_ _, rfl, ⟨⟨_, rfl, ⟨_, rfl, WkA.own, aR_ _, trivial⟩, rfl⟩, trivial⟩, rfl⟩
theorem all2_dd {γ γ' : Gh} {h h' : Hp} {M : MS} {w : World} : ∀ {ds : List D} {vs : List Value}, All2 (RdA γ h M w) (ds.map A.d) vs → All2 (RdA γ' h' M w) (ds.map A.d) vs
 | [], [], _ => trivial
 | d :: ds, v :: vs, k => ⟨k.1, all2_dd k.2⟩
 | [], _ :: _, k => k.elim
 | _ :: _, [], k => k.elim
theorem LC.key0 {P : Program} {F : FuncId} {args : List V} {j : Nat} {t : TypeId} {ds : List D} (hc : LC P F args [] (.a (.ptr j 0)) [(j, .box t (ds.map A.d))]) : LC P F args [] (.a (.ptr 0 0)) [(0, .box t (ds.map A.d))] := by
 intro γ M w rs hr ha
 refine cM (hc γ M w rs hr ha) ?_
 rintro e w' ⟨r, γ', M', h1, h2, h3, h4⟩
 have hl0 : ∀ key e', look [(0, Ent.box t (ds.map A.d))] key = some e' → key = 0 ∧ e' = .box t (ds.map A.d) := fun key e' h => by
  simp only [look] at h
  split at h
  ·
   injection h with h; exact ⟨by omega, h.symm⟩
  ·
   cases h
 have hlj : look [(j, Ent.box t (ds.map A.d))] j = some (.box t (ds.map A.d)) := by simp [look]
 have ho : ∀ key b i, Owns (fun _ => γ' j) (look [(0, Ent.box t (ds.map A.d))]) key b i → Owns γ' (look [(j, Ent.box t (ds.map A.d))]) j b i := fun key b i h => by
  unfold Owns at h
  cases h5 : look [(0, Ent.box t (ds.map A.d))] key with
  | none => rw [h5] at h; exact h.elim
  | some e' =>
    obtain ⟨rfl, rfl⟩ := hl0 key e' h5
    rw [h5] at h
    simp only [Owns, hlj]; exact h
 refine ⟨r, fun _ => γ' j, M', h1, ⟨fun key e' h => ?_, fun key b i h => h2.own j b i (ho key b i h), fun k1 k2 b l1 l2 _ _ => ?_, h2.u32, h2.dom, h2.glb⟩, ?_, ⟨h4.os, h4.tape, h4.output, h4.size, h4.fx, h4.other, h4.keep, fun key b i h hb => h4.new j b i (ho key b i h) hb, fun key e h => by simp [look] at h⟩⟩
 ·
  obtain ⟨rfl, rfl⟩ := hl0 key e' h
  obtain ⟨g, vs, q1, q2, q3⟩ := h2.ent j _ hlj
  exact ⟨g, vs, q1, q2, all2_dd q3⟩
 ·
  cases h5 : look [(0, Ent.box t (ds.map A.d))] k1 with
  | none => rw [h5] at l1; cases l1
  | some e1 =>
    cases h6 : look [(0, Ent.box t (ds.map A.d))] k2 with
    | none => rw [h6] at l2; cases l2
    | some e2 => rw [(hl0 _ _ h5).1, (hl0 _ _ h6).1]
 ·
  obtain ⟨_, g, q1, q2⟩ := h3
  exact ⟨rfl, g, q1, q2⟩
theorem lx_new {raw : List Nat} (h : RawOk raw) : LX Tryz.prog 140 [.a (.d (bysD raw))] [] fun v H => v = .a (.ptr 0 0) ∧ H = fdH raw 0 := by
 obtain ⟨v, H, ⟨rfl, rfl⟩, hc⟩ := lx_new2 h
 exact ⟨_, _, ⟨rfl, rfl⟩, LC.key0 (ds := [bysD raw, .lit (.int .i64 (0 : Nat))]) hc⟩
theorem lx_next {raw : List Nat} {a n : Nat} (h : RawOk raw) (ha : a ≤ raw.length) (hn : 1 ≤ n ∧ n ≤ 9) : ∃ a' m : Nat, a' ≤ raw.length ∧ m < n ∧ LX Tryz.prog 142 [.a (.ptr 0 0), vl (.int .i64 (n : Nat))] (fdH raw a) fun v H => v = vl (.int .i64 (m : Nat)) ∧ H = fdH raw a' := by
 have hl := h.len
 rcases Nat.lt_or_ge a raw.length with h1 | h1
 ·
  obtain ⟨b, hb⟩ := at_some h1
  have hbb := h.by_ b (mG_ hb)
  refine ⟨a + 1, b % n, h1, Nat.mod_lt _ (by omega), ?_⟩
  have hw : IntKind.i64.wrap ((a : Int) + 1) = ((a + 1 : Nat) : Int) := by rw [wr64 (by omega) (by omega)]; omega
  have hw2 : IntKind.i64.wrap (((a + 1 : Nat) : Int) - 1) = (a : Int) := by rw [wr64 (by omega) (by omega)]; omega
  have hw3 : IntKind.i64.wrap (b : Int) = (b : Int) := wr64 (by omega) (by omega)
  obtain rfl | rfl | rfl | rfl | rfl | rfl | rfl | rfl | rfl : n = 1 ∨ n = 2 ∨ n = 3 ∨ n = 4 ∨ n = 5 ∨ n = 6 ∨ n = 7 ∨ n = 8 ∨ n = 9 := by omega
  all_goals refine LX_run (m := 1) (n0 := 1) mix Tryz.func142 rfl rfl rfl rfl ?_
            conv => whnf
  all_goals refine bF (decide_eq_false (by simp; omega)) ?_
            conv => whnf
  all_goals refine .mk (by kernel_rfl) ?_
            conv => whnf
  all_goals rw [hw, hw2]
  all_goals refine .mk (a) ([.lit (.int .u8 (b : Nat))]) (rfl) (at_map hb) ?_
            conv => whnf
  all_goals conv => whnf
  all_goals refine .mk (by kernel_rfl) ?_
            conv => whnf
  all_goals exact ⟨_, _, ⟨rfl, rfl⟩, WkV.int (by rw [hw3]; rfl), rfl, ⟨⟨_, rfl, wke_refl _, rfl⟩, trivial⟩, rfl⟩
 ·
  refine ⟨a, 0, ha, by omega, ?_⟩
  refine LX_run (m := 1) (n0 := 1) mix Tryz.func142 rfl rfl rfl rfl ?_
  conv => whnf
  refine bT (decide_eq_true (by simp; omega)) ?_
  conv => whnf
  refine .mk (by kernel_rfl) ?_
  conv => whnf
  exact ⟨_, _, ⟨rfl, rfl⟩, vR_ _, rfl, ⟨⟨_, rfl, wke_refl _, rfl⟩, trivial⟩, rfl⟩
theorem frac_b {z d : Int} (hz : z.natAbs ≤ 2 ^ 3) (hd : d = 1 ∨ d = 2 ∨ d = 4) : Bt 5 ((z : Rat) / (d : Rat)) := by
 have h1 : Bt 3 (z : Rat) := Bt.int hz
 have h2 : Bt 2 (d : Rat) := Bt.int (by rcases hd with rfl | rfl | rfl <;> decide)
 exact h1.div h2 (by rcases hd with rfl | rfl | rfl <;> decide)
theorem lx_number {raw : List Nat} {a : Nat} (h : RawOk raw) (ha : a ≤ raw.length) : ∃ (a' : Nat) (q : Rat), a' ≤ raw.length ∧ Bt 5 q ∧ LX Tryz.prog 143 [.a (.ptr 0 0)] (fdH raw a) fun v H => v = ratV q ∧ H = fdH raw a' := by
 obtain ⟨a1, m1, h1, h2, c1⟩ := lx_next (n := 9) h ha (by omega)
 obtain ⟨a2, m2, h3, h4, c2⟩ := lx_next (n := 4) h h1 (by omega)
 have hw : IntKind.i64.wrap ((m1 : Int) - 4) = (m1 : Int) - 4 := wr64 (by omega) (by omega)
 have hz : ((m1 : Int) - 4).natAbs ≤ 2 ^ 3 := by omega
 have go : ∀ d : Int, (d = 1 ∨ d = 2 ∨ d = 4) → ∃ (a' : Nat) (q : Rat), q = (((m1 : Int) - 4 : Int) : Rat) / (d : Rat) ∧ a' ≤ raw.length ∧ Bt 5 q ∧ a' = a2 := fun d hd => ⟨a2, _, rfl, h3, frac_b hz hd, rfl⟩
 obtain ⟨d, hd, hm⟩ : ∃ d : Int, (d = 1 ∨ d = 2 ∨ d = 4) ∧ ((m2 = 0 ∧ d = 1) ∨ (m2 = 1 ∧ d = 1) ∨ (m2 = 2 ∧ d = 2) ∨ (m2 = 3 ∧ d = 4)) := by
  obtain e | e | e | e : m2 = 0 ∨ m2 = 1 ∨ m2 = 2 ∨ m2 = 3 := by omega
  ·
   exact ⟨1, by omega, by omega⟩
  ·
   exact ⟨1, by omega, by omega⟩
  ·
   exact ⟨2, by omega, by omega⟩
  ·
   exact ⟨4, by omega, by omega⟩
 refine ⟨a2, _, h3, frac_b hz hd, ?_⟩
 obtain ⟨rfl, rfl⟩ | ⟨rfl, rfl⟩ | ⟨rfl, rfl⟩ | ⟨rfl, rfl⟩ := hm
 all_goals refine LX_run (m := 1) (n0 := 1) mix Tryz.func143 rfl rfl rfl rfl ?_
           conv => whnf
 all_goals refine .l [0] (c1) ?_
           conv => whnf
 all_goals refine .l [0] (c2) ?_
           conv => whnf
 all_goals rw [hw]
 ·
  refine .c (lx_zfrac (z := 1) (by omega) (by omega) (by omega) (by omega) (by omega)) ?_
  conv => whnf
  exact ⟨_, _, ⟨rfl, rfl⟩, vR_ _, rfl, ⟨⟨_, rfl, wke_refl _, rfl⟩, trivial⟩, rfl⟩
 ·
  refine .c (lx_zfrac (z := 1) (by omega) (by omega) (by omega) (by omega) (by omega)) ?_
  conv => whnf
  exact ⟨_, _, ⟨rfl, rfl⟩, vR_ _, rfl, ⟨⟨_, rfl, wke_refl _, rfl⟩, trivial⟩, rfl⟩
 ·
  refine .c (lx_zfrac (z := 2) (by omega) (by omega) (by omega) (by omega) (by omega)) ?_
  conv => whnf
  exact ⟨_, _, ⟨rfl, rfl⟩, vR_ _, rfl, ⟨⟨_, rfl, wke_refl _, rfl⟩, trivial⟩, rfl⟩
 ·
  refine .c (lx_zfrac (z := 4) (by omega) (by omega) (by omega) (by omega) (by omega)) ?_
  conv => whnf
  exact ⟨_, _, ⟨rfl, rfl⟩, vR_ _, rfl, ⟨⟨_, rfl, wke_refl _, rfl⟩, trivial⟩, rfl⟩
theorem TsOk.cof_ge {n : Int} {ts : List Tm} {lo w : Int} (h : TsOk n lo ts) (hw : n ≤ w) : cof ts w = 0 := by
 induction ts generalizing lo with
 | nil => rfl
 | cons t ts ih =>
   have := h.2.1
   rw [cof, if_neg (by omega), ih h.2.2.2, Rat.add_zero]
theorem FB.snoc {v : Nat} {f : Af} {q : Rat} (h : FB 5 v f) (hq : Bt 5 q) : FB 5 (v + 1 : Nat) (addS f (scaleS (varS v) q)) := by
 have h1 := (FB.var (n := ((v + 1 : Nat) : Int)) (v := v) (by omega) (by omega)).scale hq
 have e1 : ∀ w : Int, cof (scaleS (varS v) q).ts w = if (v : Int) = w then q else 0 := fun w => by
  rw [scaleS, cof_scale, varS, cof, cof, Rat.add_zero]
  split
  ·
   exact Rat.one_mul q
  ·
   exact Rat.zero_mul q
 refine ⟨ok_fold (fun t ht => let h := h1.tm t ht; ⟨h.1, h.2.1⟩) (h.ts.up (by omega)), fun w => ?_, ?_⟩
 ·
  rw [addS, cof_fold, e1]
  split
  ·
   rename_i e
   rw [h.ts.cof_ge (by omega), Rat.zero_add]; exact hq
  ·
   rw [Rat.add_zero]; exact h.co w
 ·
  show Bt 5 (f.c + 0 * q)
  rw [Rat.zero_mul, Rat.add_zero]; exact h.c
theorem lx_form {raw : List Nat} {a n : Nat} (h : RawOk raw) (ha : a ≤ raw.length) (hn : n ≤ 10000) : ∃ (a' : Nat) (f : Af), a' ≤ raw.length ∧ FB 5 n f ∧ LX Tryz.prog 181 [.a (.ptr 0 0), vl (.int .i64 (n : Nat))] (fdH raw a) fun v H => v = .agg f.A ∧ H = fdH raw a' := by
 suffices hh : LX Tryz.prog 181 [.a (.ptr 0 0), vl (.int .i64 (n : Nat))] (fdH raw a) fun v H => ∃ (a' : Nat) (f : Af), (a' ≤ raw.length ∧ FB 5 n f) ∧ v = .agg f.A ∧ H = fdH raw a' by
  obtain ⟨v, H', ⟨a', f, ⟨h1, h2⟩, rfl, rfl⟩, hc⟩ := hh
  exact ⟨a', f, h1, h2, _, _, ⟨rfl, rfl⟩, hc⟩
 obtain ⟨a1, q, h1, h2, c1⟩ := lx_number h ha
 refine LX_run (m := 1) (n0 := 1) mix Tryz.func181 rfl rfl rfl rfl ?_
 conv => whnf
 refine .l [0] (c1) ?_
 conv => whnf
 refine .mk (Nat × Nat × Af) (fun (i, a, f) => ⟨[(6, vl (.int .i64 (i : Nat))), (5, .a (.ptr 3 0)), (4, .a (.ptr 1 0)), (1, vl (.int .i64 (n : Nat))), (0, .a (.ptr 0 0))], [(0, .box 194 [.d (bysD raw), .d (.lit (.int .i64 (a : Nat)))]), (1, .box 39 [.d (.lit (.slice none 0 0)), .d (.lit (.bool false)), .d (.nat 0), .d (.nat 0)]), (3, .box 39 f.A)], 4⟩)
  (fun b => b.1 ≤ n ∧ b.2.1 ≤ raw.length ∧ FB 5 b.1 b.2.2) (fun b => n - b.1) (0, a1, numS q) ?_ ⟨zL_ _, h1, FB.num h2⟩ fun ⟨i, a, f⟩ hb => ?_
 ·
  exact Wk.go (h2 := ⟨⟨_, rfl, wke_refl _, rfl⟩, ⟨_, rfl, wke_refl _, rfl⟩, ⟨_, rfl, ⟨_, rfl, WkA.nil, aR_ _, aR_ _, aR_ _, trivial⟩, rfl⟩, trivial⟩)
 obtain ⟨hi, ha, hf⟩ := hb
 simp only at hi ha hf
 conv => whnf
 refine bs (fun h3 => ?_) (fun h3 => ?_)
 ·
  conv => whnf
  have h3' : i < n := by simpa using h3
  obtain ⟨a2, m, k1, k2, c2⟩ := lx_next (n := 3) h ha (by omega)
  refine .l [0] (c2) ?_
  conv => whnf
  refine bs (fun h4 => ?_) (fun h4 => ?_)
  ·
   conv => whnf
   obtain ⟨a3, q', k3, k4, c3⟩ := lx_number h k1
   have hv := FB.var (n := ((i + 1 : Nat) : Int)) (v := i) (by omega) (by omega)
   refine .c (lx_zvar) ?_
   conv => whnf
   refine .l [0] (c3) ?_
   conv => whnf
   refine .c (lx_scale hv k4 (by omega) (by omega) (by omega)) ?_
   conv => whnf
   refine .c (lx_add (hf.up (n' := ((i + 1 : Nat) : Int)) (lR_ 5) (by omega)) (hv.scale k4) (by omega) (by omega) (by omega)) ?_
   conv => whnf
   refine .mk (by kernel_rfl) ?_
   conv => whnf
   exact ⟨(i + 1, a3, addS f (scaleS (varS i) q')), Wk.go, ⟨h3', k3, hf.snoc k4⟩, by simp only; omega⟩
  ·
   conv => whnf
   exact ⟨(i + 1, a2, f), Wk.go, ⟨h3', k1, hf.up (lR_ 5) (by simp only; omega)⟩, by simp only; omega⟩
 ·
  conv => whnf
  have e : i = n := by simp at h3; omega
  subst e
  exact ⟨_, _, ⟨a, f, ⟨ha, hf⟩, rfl, rfl⟩, vR_ _, rfl, ⟨⟨_, rfl, wke_refl _, rfl⟩, trivial⟩, rfl⟩
structure FsB (n : Int) (fs : List Af) : Prop where
 fb : ∀ f ∈ fs, FB 5 n f
structure GrB (g : Gr) : Prop where
 n1 : 1 ≤ g.n
 n2 : g.n ≤ 3
 u1 : g.us.length ≤ 4
 o1 : 1 ≤ g.os.length
 o2 : g.os.length ≤ 3
 us : ∀ (j : Nat) (f : Af), g.us[j]? = some f → FB 5 (g.n + j : Nat) f
 os : ∀ f ∈ g.os, FB 5 (g.n + g.us.length : Nat) f
theorem GrB.ok {g : Gr} (h : GrB g) : GrOk g := by
 have := h.n1; have := h.n2; have := h.u1; have := h.o1; have := h.o2
 exact ⟨by omega, by omega, by omega, by omega, by omega, fun j f hj => (h.us j f hj).ok (by decide) (by omega) (by have := at_lt hj; omega), fun f hf => (h.os f hf).ok (by decide) (by omega) (by omega)⟩
theorem lx_graph {raw : List Nat} {a : Nat} (h : RawOk raw) (ha : a ≤ raw.length) : ∃ (a' : Nat) (g : Gr), a' ≤ raw.length ∧ GrB g ∧ LX Tryz.prog 179 [.a (.ptr 0 0)] (fdH raw a) fun v H => v = .agg g.A ∧ H = fdH raw a' := by
 suffices hh : LX Tryz.prog 179 [.a (.ptr 0 0)] (fdH raw a) fun v H => ∃ (a' : Nat) (g : Gr), (a' ≤ raw.length ∧ GrB g) ∧ v = .agg g.A ∧ H = fdH raw a' by
  obtain ⟨v, H', ⟨a', f, ⟨h1, h2⟩, rfl, rfl⟩, hc⟩ := hh
  exact ⟨a', f, h1, h2, _, _, ⟨rfl, rfl⟩, hc⟩
 obtain ⟨a1, m1, k1, k2, c1⟩ := lx_next (n := 3) h ha (by omega)
 obtain ⟨a2, m2, k3, k4, c2⟩ := lx_next (n := 5) h k1 (by omega)
 obtain ⟨a3, m3, k5, k6, c3⟩ := lx_next (n := 3) h k3 (by omega)
 have hw : IntKind.i64.wrap (1 + (m1 : Int)) = ((m1 + 1 : Nat) : Int) := by rw [wr64 (by omega) (by omega)]; omega
 have hw3 : IntKind.i64.wrap (1 + (m3 : Int)) = ((m3 + 1 : Nat) : Int) := by rw [wr64 (by omega) (by omega)]; omega
 refine LX_run (m := 1) (n0 := 1) mix Tryz.func179 rfl rfl rfl rfl ?_
 conv => whnf
 refine .l [0] (c1) ?_
 conv => whnf
 rw [hw]
 refine .l [0] (c2) ?_
 conv => whnf
 refine .l [0] (c3) ?_
 conv => whnf
 rw [hw3]
 refine .mk (Nat × Nat × List Af) (fun (i, a, us) => ⟨[(6, vl (.int .i64 (i : Nat))), (5, vl (.int .i64 ((m3 + 1 : Nat) : Int))), (4, vl (.int .i64 (m2 : Nat))), (3, .a (.ptr 3 0)), (2, .a (.ptr 1 0)), (0, .a (.ptr 0 0))], [(0, .box 194 [.d (bysD raw), .d (.lit (.int .i64 (a : Nat)))]), (1, .box 29 [.d (.lit (.int .i64 0)), .d (.lit (.slice none 0 0)), .d (.lit (.slice none 0 0))]), (3, .box 29 [.d (.lit (.int .i64 ((m1 + 1 : Nat) : Int))), .own 6 4 (us.map Af.D), .d (.lit (.slice none 0 0))]), (6, .arr 39 4 (us.map Af.D).length)], 7⟩)
  (fun b => b.1 ≤ m2 ∧ b.2.1 ≤ raw.length ∧ b.2.2.length = b.1 ∧ ∀ (j : Nat) (f : Af), b.2.2[j]? = some f → FB 5 (m1 + 1 + j : Nat) f) (fun b => m2 - b.1) (0, a3, []) (Wk.trans (Wk.ownB 3 6 1 39 4 rfl rfl rfl) Wk.go) ⟨zL_ _, k5, rfl, fun j f hj => by simp at hj⟩ fun ⟨i, a, us⟩ hb => ?_
 obtain ⟨hi, ha, hu, hf⟩ := hb
 simp only at hi ha hu hf
 conv => whnf
 refine bs (fun h3 => ?_) (fun h3 => ?_)
 ·
  conv => whnf
  have h3' : i < m2 := by simpa using h3
  have hwi : IntKind.i64.wrap (((m1 + 1 : Nat) : Int) + (i : Int)) = ((m1 + 1 + i : Nat) : Int) := by rw [wr64 (by omega) (by omega)]; omega
  obtain ⟨a4, f, k7, k8, c4⟩ := lx_form (n := m1 + 1 + i) h ha (by omega)
  rw [hwi]
  refine .l [0] (c4) ?_
  conv => whnf
  refine .mk ((us ++ [f]).map Af.D) rfl (by rw [List.map_append]; rfl) (by simp; omega) ?_
  conv => whnf
  refine .mk (by kernel_rfl) ?_
  conv => whnf
  refine ⟨(i + 1, a4, us ++ [f]), Wk.go, ⟨h3', k7, by simp [hu], fun j g hj => ?_⟩, by simp only; omega⟩
  simp only at hj
  rcases Nat.lt_trichotomy j i with h5 | h5 | h5
  ·
   rw [List.getElem?_append_left (by omega)] at hj; exact hf j g hj
  ·
   subst h5
   rw [← hu, List.getElem?_concat_length] at hj
   injection hj with hj; subst hj
   exact k8
  ·
   rw [List.getElem?_eq_none (by simp; omega)] at hj; cases hj
 ·
  conv => whnf
  have e : i = m2 := by simp at h3; omega
  subst e
  refine .mk (Nat × Nat × List Af) (fun (j, a, os) => ⟨[(7, vl (.int .i64 (j : Nat))), (5, vl (.int .i64 ((m3 + 1 : Nat) : Int))), (4, vl (.int .i64 (i : Nat))), (3, .a (.ptr 3 0)), (2, .a (.ptr 1 0)), (0, .a (.ptr 0 0))], [(0, .box 194 [.d (bysD raw), .d (.lit (.int .i64 (a : Nat)))]), (1, .box 29 [.d (.lit (.int .i64 0)), .d (.lit (.slice none 0 0)), .d (.lit (.slice none 0 0))]), (3, .box 29 [.d (.lit (.int .i64 ((m1 + 1 : Nat) : Int))), .d (afsD us), .own 7 4 (os.map Af.D)]), (7, .arr 39 4 (os.map Af.D).length)], 8⟩)
   (fun b => b.1 ≤ m3 + 1 ∧ b.2.1 ≤ raw.length ∧ b.2.2.length = b.1 ∧ ∀ f ∈ b.2.2, FB 5 (m1 + 1 + i : Nat) f) (fun b => m3 + 1 - b.1) (0, a, []) (Wk.trans (Wk.ownB 3 7 2 39 4 rfl rfl rfl) (Wk.go (h2 := ⟨⟨_, rfl, wke_refl _, rfl⟩, ⟨_, rfl, wke_refl _, rfl⟩, ⟨_, rfl, ⟨_, rfl, aR_ _, WkA.own, aR_ _, trivial⟩, rfl⟩, ⟨_, rfl, wke_refl _, rfl⟩, trivial⟩))) ⟨zL_ _, ha, rfl, fun f hj => by cases hj⟩ fun ⟨j, a', os⟩ hb => ?_
  obtain ⟨hj, ha', ho, hg⟩ := hb
  simp only at hj ha' ho hg
  conv => whnf
  refine bs (fun h4 => ?_) (fun h4 => ?_)
  ·
   conv => whnf
   have h4' : j < m3 + 1 := by simp at h4; omega
   have hwi : IntKind.i64.wrap (((m1 + 1 : Nat) : Int) + (i : Int)) = ((m1 + 1 + i : Nat) : Int) := by rw [wr64 (by omega) (by omega)]; omega
   obtain ⟨a4, f, k7, k8, c4⟩ := lx_form (n := m1 + 1 + i) h ha' (by omega)
   rw [hwi]
   refine .l [0] (c4) ?_
   conv => whnf
   refine .mk ((os ++ [f]).map Af.D) rfl (by rw [List.map_append]; rfl) (by simp; omega) ?_
   conv => whnf
   refine .mk (by kernel_rfl) ?_
   conv => whnf
   refine ⟨(j + 1, a4, os ++ [f]), Wk.go, ⟨h4', k7, by simp [ho], fun g hj => ?_⟩, by simp only; omega⟩
   simp only at hj
   rcases List.mem_append.1 hj with h5 | h5
   ·
    exact hg g h5
   ·
    rw [List.mem_singleton.1 h5]; exact k8
  ·
   conv => whnf
   have e : j = m3 + 1 := by simp at h4; omega
   exact ⟨_, _, ⟨a', ⟨m1 + 1, us, os⟩, ⟨ha', ⟨by simp only; omega, by simp only; omega, by simp only; omega, by simp only; omega, by simp only; omega, hf, fun f hf' => by rw [show ((Gr.mk (m1 + 1) us os).n + (Gr.mk (m1 + 1) us os).us.length : Nat) = m1 + 1 + i by simp only; omega]; exact hg f hf'⟩⟩, rfl, rfl⟩, WkV.agg ⟨aR_ _, aR_ _, WkA.own, trivial⟩, rfl, ⟨⟨_, rfl, wke_refl _, rfl⟩, trivial⟩, rfl⟩
structure RgB (r : Rg) (n : Nat) : Prop where
 lo : r.lo.length = n
 hi : r.hi.length = n
 rl : r.rs.length ≤ 2
 sl : ∀ q ∈ r.lo, Bt 11 q
 sh : ∀ q ∈ r.hi, Bt 11 q
 le : ∀ (i : Nat) (a b : Rat), r.lo[i]? = some a → r.hi[i]? = some b → a ≤ b
 rs : ∀ f ∈ r.rs, FB 5 n f
theorem RgB.ok {r : Rg} {n : Nat} (h : RgB r n) (h1 : 1 ≤ n) (h2 : n ≤ 3) : RgOk r n :=
 ⟨h1, by omega, h.lo, h.hi, by have := h.rl; omega, h.le, fun q hq => (h.sl q hq).mono (by decide), fun q hq => (h.sh q hq).mono (by decide), fun f hf => (h.rs f hf).ok (by decide) (by omega) (by omega)⟩
theorem abs_nn (q : Rat) : 0 ≤ mkRat q.num.natAbs q.den := by
 rw [← Rat.divInt_ofNat, Rat.divInt_nonneg_iff_of_pos_right (by have := q.den_pos; omega)]; omega
theorem lx_small {raw : List Nat} {a n : Nat} (h : RawOk raw) (ha : a ≤ raw.length) (hn : n ≤ 1000) : ∃ (a' : Nat) (r : Rg), a' ≤ raw.length ∧ RgB r n ∧ LX Tryz.prog 180 [.a (.ptr 0 0), vl (.int .i64 (n : Nat))] (fdH raw a) fun v H => v = .agg r.A ∧ H = fdH raw a' := by
 suffices hh : LX Tryz.prog 180 [.a (.ptr 0 0), vl (.int .i64 (n : Nat))] (fdH raw a) fun v H => ∃ (a' : Nat) (r : Rg), (a' ≤ raw.length ∧ RgB r n) ∧ v = .agg r.A ∧ H = fdH raw a' by
  obtain ⟨v, H', ⟨a', f, ⟨h1, h2⟩, rfl, rfl⟩, hc⟩ := hh
  exact ⟨a', f, h1, h2, _, _, ⟨rfl, rfl⟩, hc⟩
 refine LX_run (m := 1) (n0 := 1) mix Tryz.func180 rfl rfl rfl rfl ?_
 conv => whnf
 refine .mk (Nat × Nat × List Rat × List Rat) (fun (i, a, lo, hi) => ⟨[(6, vl (.int .i64 (i : Nat))), (5, .a (.ptr 2 0)), (4, .a (.ptr 1 0)), (1, vl (.int .i64 (n : Nat))), (0, .a (.ptr 0 0))], [(0, .box 194 [.d (bysD raw), .d (.lit (.int .i64 (a : Nat)))]), (1, .box 32 [.d (.lit (.slice none 0 0)), .d (.lit (.slice none 0 0)), .d (.lit (.slice none 0 0))]), (2, .box 32 [.own 3 3 (lo.map fun q => (can q).D), .own 4 3 (hi.map fun q => (can q).D), .d (.lit (.slice none 0 0))]), (3, .arr 37 3 (lo.map fun q => (can q).D).length), (4, .arr 37 3 (hi.map fun q => (can q).D).length)], 5⟩)
  (fun b => b.1 ≤ n ∧ b.2.1 ≤ raw.length ∧ RgB ⟨b.2.2.1, b.2.2.2, []⟩ b.1) (fun b => n - b.1) (0, a, [], []) (Wk.trans (Wk.ownB 2 3 0 37 3 rfl rfl rfl) (Wk.trans (Wk.ownB 2 4 1 37 3 rfl rfl rfl) Wk.go))
  ⟨zL_ _, ha, rfl, rfl, by simp, fun q h => by simp at h, fun q h => by simp at h, fun i a b h => by simp at h, fun f h => by simp at h⟩ fun ⟨i, a, lo, hi⟩ hb => ?_
 obtain ⟨hin, ha, hr⟩ := hb
 simp only at hin ha hr
 conv => whnf
 refine bs (fun h3 => ?_) (fun h3 => ?_)
 ·
  conv => whnf
  have h3' : i < n := by simpa using h3
  obtain ⟨a1, q, k1, k2, c1⟩ := lx_number h ha
  obtain ⟨a2, q', k3, k4, c2⟩ := lx_number h k1
  have e1 := hr.lo; have e2 := hr.hi
  simp only at e1 e2
  refine .l [0] (c1) ?_
  conv => whnf
  refine .l [0] (c2) ?_
  conv => whnf
  refine .mk ((lo ++ [q]).map fun q => (can q).D) rfl (by rw [List.map_append]; rfl) (by simp; omega) ?_
  conv => whnf
  refine .c (lx_zadd (.c (k2.mono (by decide))) (.abs k4 (by decide))) ?_
  conv => whnf
  refine .mk ((hi ++ [q + mkRat q'.num.natAbs q'.den]).map fun q => (can q).D) rfl (by rw [List.map_append]; rfl) (by simp; omega) ?_
  conv => whnf
  refine .mk (by kernel_rfl) ?_
  conv => whnf
  have hsum : Bt 11 (q + mkRat q'.num.natAbs q'.den) := k2.add (bt_mk q'.den_pos (by simpa using k4.1) k4.2)
  have hnn := abs_nn q'
  generalize mkRat q'.num.natAbs q'.den = t at *
  refine ⟨(i + 1, a2, lo ++ [q], hi ++ [q + t]), Wk.go, ⟨h3', k3, ⟨by simp [e1], by simp [e2], by simp, fun x hx => ?_, fun x hx => ?_, fun j x y hx hy => ?_, fun f hf => by simp at hf⟩⟩, by simp only; omega⟩
  ·
   rcases List.mem_append.1 hx with h5 | h5
   ·
    exact hr.sl x h5
   ·
    rw [List.mem_singleton.1 h5]; exact k2.mono (by decide)
  ·
   rcases List.mem_append.1 hx with h5 | h5
   ·
    exact hr.sh x h5
   ·
    rw [List.mem_singleton.1 h5]; exact hsum
  ·
   simp only at hx hy
   rcases Nat.lt_trichotomy j i with h5 | h5 | h5
   ·
    rw [List.getElem?_append_left (by omega)] at hx hy
    exact hr.le j x y hx hy
   ·
    subst h5
    rw [List.getElem?_append_right (by omega), e1, Nat.sub_self] at hx
    rw [List.getElem?_append_right (by omega), e2, Nat.sub_self] at hy
    simp at hx hy
    subst hx hy
    grind
   ·
    rw [List.getElem?_eq_none (by simp; omega)] at hx; cases hx
 ·
  conv => whnf
  have e : i = n := by simp at h3; omega
  subst e
  obtain ⟨a1, m, k1, k2, c1⟩ := lx_next (n := 3) h ha (by omega)
  refine .l [0] (c1) ?_
  conv => whnf
  refine .mk (Nat × Nat × List Af) (fun (k, a, rs) => ⟨[(9, vl (.int .i64 (k : Nat))), (5, .a (.ptr 2 0)), (4, .a (.ptr 1 0)), (1, vl (.int .i64 (i : Nat))), (0, .a (.ptr 0 0))], [(0, .box 194 [.d (bysD raw), .d (.lit (.int .i64 (a : Nat)))]), (1, .box 32 [.d (.lit (.slice none 0 0)), .d (.lit (.slice none 0 0)), .d (.lit (.slice none 0 0))]), (2, .box 32 [.d (rqsD lo), .d (rqsD hi), .own 6 4 (rs.map Af.D)]), (6, .arr 39 4 (rs.map Af.D).length)], 7⟩)
   (fun b => b.1 + b.2.2.length ≤ 2 ∧ b.2.1 ≤ raw.length ∧ ∀ f ∈ b.2.2, FB 5 i f) (fun b => b.1) (m, a1, []) (Wk.trans (Wk.ownB 2 6 2 39 4 rfl rfl rfl) (Wk.go (h2 := ⟨⟨_, rfl, wke_refl _, rfl⟩, ⟨_, rfl, wke_refl _, rfl⟩, ⟨_, rfl, ⟨_, rfl, WkA.own, WkA.own, aR_ _, trivial⟩, rfl⟩, ⟨_, rfl, wke_refl _, rfl⟩, trivial⟩)))
   ⟨by simp; omega, k1, fun f h => by cases h⟩ fun ⟨k, a', rs⟩ hb => ?_
  obtain ⟨hk, ha', hf⟩ := hb
  simp only at hk ha' hf
  conv => whnf
  refine bs (fun h4 => ?_) (fun h4 => ?_)
  ·
   conv => whnf
   have h4' : 0 < k := by simpa using h4
   have hwk : IntKind.i64.wrap ((k : Int) - 1) = ((k - 1 : Nat) : Int) := by rw [wr64 (by omega) (by omega)]; omega
   obtain ⟨a2, f, k7, k8, c2⟩ := lx_form (n := i) h ha' (by omega)
   refine .l [0] (c2) ?_
   conv => whnf
   refine .mk ((rs ++ [f]).map Af.D) rfl (by rw [List.map_append]; rfl) (by simp; omega) ?_
   conv => whnf
   refine .mk (by kernel_rfl) ?_
   conv => whnf
   rw [hwk]
   refine ⟨(k - 1, a2, rs ++ [f]), Wk.go, ⟨by simp; omega, k7, fun g hj => ?_⟩, by simp only; omega⟩
   rcases List.mem_append.1 hj with h5 | h5
   ·
    exact hf g h5
   ·
    rw [List.mem_singleton.1 h5]; exact k8
  ·
   conv => whnf
   exact ⟨_, _, ⟨a', ⟨lo, hi, rs⟩, ⟨ha', ⟨hr.lo, hr.hi, by simp only; omega, hr.sl, hr.sh, hr.le, hf⟩⟩, rfl, rfl⟩, WkV.agg ⟨aR_ _, aR_ _, WkA.own, trivial⟩, rfl, ⟨⟨_, rfl, wke_refl _, rfl⟩, trivial⟩, rfl⟩
structure QuB (q : Qu) : Prop where
 g : GrB q.g
 r : RgB q.r q.g.n
 goal : FB 5 (q.g.n + q.g.us.length : Nat) q.goal
theorem QuB.ok {q : Qu} (h : QuB q) : QuOk q := by
 have := h.g.u1; have := h.g.n2
 exact ⟨h.g.ok, h.r.ok h.g.n1 h.g.n2, h.goal.ok (by decide) (by omega) (by omega)⟩
theorem lx_query {raw : List Nat} {a : Nat} (h : RawOk raw) (ha : a ≤ raw.length) : ∃ (a' : Nat) (q : Qu), a' ≤ raw.length ∧ QuB q ∧ LX Tryz.prog 141 [.a (.ptr 0 0)] (fdH raw a) fun v H => v = .agg q.A ∧ H = fdH raw a' := by
 obtain ⟨a1, g, k1, k2, c1⟩ := lx_graph h ha
 obtain ⟨a2, r, k3, k4, c2⟩ := lx_small (n := g.n) h k1 (by have := k2.n2; omega)
 obtain ⟨a3, f, k5, k6, c3⟩ := lx_form (n := g.n + g.us.length) h k3 (by have := k2.n2; have := k2.u1; omega)
 have hw : IntKind.i64.wrap ((g.n : Int) + ((g.us.map Af.D).length : Int)) = ((g.n + g.us.length : Nat) : Int) := by have := k2.n2; have := k2.u1; rw [wr64 (by simp; omega) (by simp; omega)]; simp
 refine ⟨a3, ⟨g, r, f⟩, k5, ⟨k2, k4, k6⟩, ?_⟩
 refine LX_run (m := 1) (n0 := 1) mix Tryz.func141 rfl rfl rfl rfl ?_
 conv => whnf
 refine .l [0] (c1) ?_
 conv => whnf
 refine .l [0] (c2) ?_
 conv => whnf
 rw [hw]
 refine .l [0] (c3) ?_
 conv => whnf
 refine .mk (by kernel_rfl) ?_
 conv => whnf
 exact ⟨_, _, ⟨rfl, rfl⟩, vR_ _, rfl, ⟨⟨_, rfl, wke_refl _, rfl⟩, trivial⟩, rfl⟩
abbrev iq (z : Int) : Rat := (z : Rat)
abbrev awU : Af := varS 0
def awQ : Qu := ⟨⟨1, [awU, awU], [awU]⟩, ⟨[0], [iq 3], []⟩, ⟨[], 0⟩⟩
def awL : List Lm := [⟨0, false, can (iq (-1)), []⟩, ⟨0, true, can (iq 1), []⟩, ⟨1, false, can (iq (-2)), []⟩, ⟨1, true, can (iq 2), []⟩]
def awS : Sp := ⟨awQ, [], awL⟩
theorem awBest0 : bestS awS 0 = (1, 2) := by
 simp [bestS, awS, awL, bestTo, bstep]
theorem awBest1 : bestS awS 1 = (3, 4) := by
 simp [bestS, awS, awL, bestTo, bstep]
theorem awOpen : openS awS = [0, 1] := by
 have h0 : phaseS awS 0 = 0 := by
  rw [phaseS, awBest0]
  simp [onS, offS, decB, awS, awL, vAt, atL, can_q, awQ]
 have h1 : phaseS awS 1 = 0 := by
  rw [phaseS, awBest1]
  simp [onS, offS, decB, awS, awL, vAt, atL, can_q, awQ]
 have e : awS.q.g.us.length = 2 := rfl
 simp [openS, openTo, e, List.range_succ, openB, h0, h1]
theorem awGap0 : gapS awS 0 = 1 / 2 := by
 rw [gapS, awBest0]
 simp [awS, awL, vAt, atL, can_q]
 decide +kernel
theorem awGap1 : gapS awS 1 = 1 := by
 rw [gapS, awBest1]
 simp [awS, awL, vAt, atL, can_q]
 decide +kernel
theorem awMost : gMost (gapS awS) (openS awS) = 1 := by
 rw [awOpen, gMost]
 simp only [List.foldl, gStep]
 rw [show ((0 : Nat) : Int) = 0 from rfl, show ((1 : Nat) : Int) = 1 from rfl, awGap0, awGap1]
 decide +kernel
theorem awIvs : bxS awS = [⟨0, 3⟩] := by
 simp [bxS, awS, awQ, ivs0, iq]
theorem awBis : bisS awS = ⟨3, 0, can (iq 3 / iq 2)⟩ := by
 have e : bxE awS = 0 := by rw [bxE, awIvs]; decide +kernel
 have e2 : bxR awS = [⟨0, 3⟩] := by rw [bxR, awIvs, if_neg (by decide +kernel)]
 rw [bisS, e, e2]
 have e3 : wTo [⟨0, 3⟩] [(⟨0, 3⟩ : Iv)].length = 0 := by decide +kernel
 rw [e3]
 simp [cntI, awS, wd, ivAt, iq]
 rw [if_neg (by decide +kernel), show (0 : Rat) + 3 = 3 by decide +kernel]
theorem awUB (n : Int) (h : 1 ≤ n) : FB 5 n awU := (FB.var (n := n) (v := 0) (Int.le_refl 0) (by omega)).up (by decide) (Int.le_refl n)
theorem biq {z : Int} (h : z.natAbs ≤ 2 ^ 5) : Bt 11 (iq z) := (Bt.int h).mono (by decide)
theorem awB : QuB awQ :=
 ⟨⟨by decide, by decide, by decide, by decide, by decide, fun j f h => by
   have hf : f = awU := by
    have := mG_ h
    simp [awQ] at this; exact this
   rw [hf]; exact awUB _ (by simp [awQ]; omega), fun f h => by
   have hf : f = awU := by simpa [awQ] using h
   rw [hf]; exact awUB _ (by simp [awQ])⟩,
  ⟨rfl, rfl, by decide, fun q h => by rw [show q = 0 by simpa [awQ] using h]; exact bt0 _, fun q h => by rw [show q = iq 3 by simpa [awQ] using h]; exact biq (by decide), fun i a b h1 h2 => by
    cases i with
    | zero => simp [awQ] at h1 h2; subst h1 h2; decide +kernel
    | succ i => simp [awQ] at h1, fun f h => by simp [awQ] at h⟩, FB.num (bt0 _)⟩
theorem awOk : SpOk awS := by
 refine ⟨awB.ok, by decide, fun d h => (by cases h), by decide, fun m h => ?_, fun q h => ((awB.r.sl q h).mono (by decide)), fun q h => ((awB.r.sh q h).mono (by decide)), fun d h => (by cases h), fun m h => ?_⟩
 ·
  simp [awS, awL] at h
  rcases h with rfl | rfl | rfl | rfl <;> exact Sz.sm ((biq (by decide)).mono (by decide))
 ·
  simp [awS, awL] at h
  rcases h with rfl | rfl | rfl | rfl <;> (simp only [can_q]; exact (biq (by decide)).mono (by decide))
theorem awE (r : Int) (h : 0 ≤ r ∧ r ≤ 3) : csE awS r = 0 := by rw [csE, if_neg (by omega), awOpen]; rfl
theorem awC0 : csD awS (onD (gMost (gapS awS) (openS awS))) 0 = onD 0 := by
 rw [csD, if_neg (by rw [awE 0 (by decide)]; decide), if_pos rfl, firS, awOpen]; rfl
theorem awC1 : csD awS (onD (gMost (gapS awS) (openS awS))) 1 = onD 1 := by
 rw [csD, if_neg (by rw [awE 1 (by decide)]; decide), if_neg (by decide), if_pos rfl, awMost]; rfl
theorem awC2 : csD awS (onD (gMost (gapS awS) (openS awS))) 2 = ⟨3, 0, can (iq 3 / iq 2)⟩ := by
 rw [csD, if_neg (by rw [awE 2 (by decide)]; decide), if_neg (by decide), if_neg (by decide), if_pos rfl, awBis]
theorem lx_chooseN {s : Sp} {r : Int} (hs : SpOk s) : LV Tryz.prog 16 [.agg s.A, vl (.slice none 0 0), vl (.int .i64 r)] (.tup [.g (csD s (onD (gMost (gapS s) (openS s))) r).A, .s (.d (.lit (.int .i64 (csE s r))))]) :=
 (lx_choose0 hs).wk ⟨vR_ _, WkV.of WkA.nil, vR_ _, trivial⟩
theorem aw_ch (r : Int) (h : 0 ≤ r ∧ r ≤ 3) : LV Tryz.prog 16 [.agg awS.A, vl (.slice none 0 0), vl (.int .i64 r)] (.tup [.g (csD awS (onD (gMost (gapS awS) (openS awS))) r).A, .s (.d (.lit (.int .i64 0)))]) := by
 have := lx_chooseN (r := r) awOk
 rwa [awE r h] at this
theorem aw0 : LV Tryz.prog 16 [.agg (Qu.A awQ ++ [.d (.lit (.slice none 0 0)), .d (lmsD awL)]), vl (.slice none 0 0), vl (.int .i64 0)] (.tup [.g (Dc.A (onD 0)), .s (.d (.lit (.int .i64 0)))]) := by
 have := aw_ch 0 (by decide)
 rw [awC0] at this
 exact this.wk ⟨WkV.agg ⟨aR_ _, aR_ _, aR_ _, aR_ _, aR_ _, aR_ _, aR_ _, aR_ _, aR_ _, aR_ _, WkA.nil, aR_ _, trivial⟩, vR_ _, vR_ _, trivial⟩
theorem aw1 : LV Tryz.prog 16 [.agg (Qu.A awQ ++ [.d (.lit (.slice none 0 0)), .d (lmsD awL)]), vl (.slice none 0 0), vl (.int .i64 1)] (.tup [.g (Dc.A (onD 1)), .s (.d (.lit (.int .i64 0)))]) := by
 have := aw_ch 1 (by decide)
 rw [awC1] at this
 exact this.wk ⟨WkV.agg ⟨aR_ _, aR_ _, aR_ _, aR_ _, aR_ _, aR_ _, aR_ _, aR_ _, aR_ _, aR_ _, WkA.nil, aR_ _, trivial⟩, vR_ _, vR_ _, trivial⟩
theorem aw2 : LV Tryz.prog 16 [.agg (Qu.A awQ ++ [.d (.lit (.slice none 0 0)), .d (lmsD awL)]), vl (.slice none 0 0), vl (.int .i64 2)] (.tup [.g (Dc.A (⟨3, 0, can (iq 3 / iq 2)⟩)), .s (.d (.lit (.int .i64 0)))]) := by
 have := aw_ch 2 (by decide)
 rw [awC2] at this
 exact this.wk ⟨WkV.agg ⟨aR_ _, aR_ _, aR_ _, aR_ _, aR_ _, aR_ _, aR_ _, aR_ _, aR_ _, aR_ _, WkA.nil, aR_ _, trivial⟩, vR_ _, vR_ _, trivial⟩
theorem lx_zsameR {x : Rw} : LV Tryz.prog 21 [.agg x.A, .agg x.A] (vl (.bool true)) := by
 have := lx_zsame2 (x := x) (y := x)
 rwa [Rw.eq_iff.2 rfl] at this
theorem lx_awake : LV Tryz.prog 6 [] (vl (.bool true)) := by
 refine LX_run (m := 0) (n0 := 0) mix Tryz.func6 rfl rfl rfl rfl ?_
 conv => whnf
 refine .c (lx_zof (z := 1) (by decide) (by decide)) ?_
 conv => whnf
 refine .c (lx_zof (z := 2) (by decide) (by decide)) ?_
 conv => whnf
 refine .c (lx_zof (z := 3) (by decide) (by decide)) ?_
 conv => whnf
 refine .c (lx_zof (z := -1) (by decide) (by decide)) ?_
 conv => whnf
 refine .c (lx_zof (z := -2) (by decide) (by decide)) ?_
 conv => whnf
 refine .mk (by kernel_rfl) ?_
 conv => whnf
 refine .c (aw0) ?_
 conv => whnf
 refine .c (aw1) ?_
 conv => whnf
 refine .c (aw2) ?_
 conv => whnf
 refine .c (lx_zfrac (y := 3) (z := 2) (by decide) (by decide) (by decide) (by decide) (by decide)) ?_
 conv => whnf
 refine .c (lx_zsameR (x := can (iq 3 / iq 2))) ?_
 conv => whnf
 exact .q ⟨rfl, rfl⟩
theorem twTo_app (l : List Dc) (d : Dc) : ∀ i, i ≤ l.length → twTo (l ++ [d]) i = twTo l i
 | 0, _ => rfl
 | i + 1, h => by
   simp only [twTo]
   rw [twTo_app l d i (by omega), List.getElem?_append_left (by omega), List.take_append_of_le_length (by omega)]
theorem twB_snoc (l : List Dc) (d : Dc) : twB (l ++ [d]) = (twB l || (isU d && seenB l d.i)) := by
 rw [twB, show (l ++ [d]).length = l.length + 1 by simp, twTo, twTo_app l d _ (lR_ _), List.getElem?_concat_length, List.take_append_of_le_length (lR_ _), List.take_length]
 rfl
def cU (n : Nat) (P : List Dc) : Nat := ((List.range n).filter fun u : Nat => seenB P (u : Int)).length
theorem z0_zero : (⟨false, limbs 0, limbs 0⟩ : Rw).z0 = true := by simp [Rw.z0, limbs_zero]
structure PathI (q : Qu) (P : List Dc) : Prop where
 fit : ∀ d ∈ P, fitB q d = true
 tw : twB P = false
 c4 : cntI P ≤ 4
 len : P.length = cU q.g.us.length P + cntI P
 bt : ∀ d ∈ P, Bt (16 ^ (cntI P + 1)) d.at_.q
 sm : ∀ d ∈ P, d.at_.sm
theorem zero_q : (⟨false, limbs 0, limbs 0⟩ : Rw).q = 0 := by rw [← can0, can_q]
theorem on_sm (u : Int) : (onD u).at_.sm := by
 show (limbs 0).length ≤ _ ∧ (limbs 0).length ≤ _
 rw [limbs_zero]; exact ⟨zL_ _, zL_ _⟩
open Go.ChangeShapes Go.WideShapes
theorem wfu8 {n : Int} (h : (Lit.int .u8 n).wf = true) : 0 ≤ n ∧ n < 256 := by
 simp [Lit.wf, IntKind.min, IntKind.max, IntKind.signed, IntKind.bits] at h
 omega
structure Ro where
 k : Int
 i : Int
 l : Int
 h : Int
deriving DecidableEq
structure Mu where
 r : Ro
 c : Rat
abbrev Ro.A (r : Ro) : List A := [.d (.lit (.int .i64 r.k)), .d (.lit (.int .i64 r.i)), .d (.lit (.int .i64 r.l)), .d (.lit (.int .i64 r.h))]
abbrev Mu.D (m : Mu) : List D := [.lit (.int .i64 m.r.k), .lit (.int .i64 m.r.i), .lit (.int .i64 m.r.l), .lit (.int .i64 m.r.h), .lit (.bool (decide (m.c < 0))), .lm (limbs m.c.num.natAbs), .lm (limbs (dn m.c))]
abbrev musD (l : List Mu) : D := .sl 7 (l.map Mu.D)
def lessB (a b : Ro) : Bool := if a.k ≠ b.k then decide (a.k < b.k) else if a.i ≠ b.i then decide (a.i < b.i) else if a.l ≠ b.l then decide (a.l < b.l) else decide (a.h < b.h)
def plusM (r : Ro) (c : Rat) : List Mu → List Mu
 | [] => [⟨r, c⟩]
 | m :: l => if lessB m.r r = true then m :: plusM r c l else if m.r = r then ⟨r, m.c + c⟩ :: l else ⟨r, c⟩ :: m :: l
def plS (l : List Mu) (r : Ro) (c : Rat) : List Mu := if c = 0 then l else plusM r c l
theorem plusM_take {r : Ro} {c : Rat} : ∀ {l : List Mu} {k : Nat}, (∀ (j : Nat) m, j < k → l[j]? = some m → lessB m.r r = true) → plusM r c l = l.take k ++ plusM r c (l.drop k)
 | l, 0, _ => by simp
 | [], k + 1, _ => by simp
 | m :: l, k + 1, h => by
   rw [plusM, if_pos (h 0 m (by omega) rfl), plusM_take (l := l) (k := k) fun j x hj hx => h (j + 1) x (by omega) (by simpa using hx)]
   simp
theorem plusM_len (r : Ro) (c : Rat) : ∀ l : List Mu, (plusM r c l).length ≤ l.length + 1
 | [] => lR_ _
 | m :: l => by
   have := plusM_len r c l
   rw [plusM]; repeat' split
   all_goals (simp only [List.length_cons]; omega)
theorem plS_len (l : List Mu) (r : Ro) (c : Rat) : (plS l r c).length ≤ l.length + 1 := by
 unfold plS; split
 ·
  omega
 ·
  exact plusM_len r c l
theorem lx_less {a b : Ro} : LV Tryz.prog 205 [.agg a.A, .agg b.A] (vl (.bool (lessB a b))) := by
 refine LX_run (m := 0) (n0 := 0) mix Tryz.func205 rfl rfl rfl rfl ?_
 conv => whnf
 repeat' first | (refine bs (fun h => ?_) (fun h => ?_) <;> conv => whnf) | (refine Nc.mk (by kernel_rfl) ?_; conv => whnf)
 all_goals exact .q ⟨by first | (simp_all [lessB]; done) | (simp_all [lessB]; intros; omega) | ((simp [lessB]; repeat' split) <;> first | (simp_all; done) | (simp_all; intros; omega)), rfl⟩
def MuB (K : Nat) (l : List Mu) : Prop := ∀ m ∈ l, Bt K m.c
theorem lx_mplus {l : List Mu} {r : Ro} {c : Rat} {K k : Nat} (hl : MuB K l) (hc : Bt k c) (hk : K + k + 1 ≤ 3000000000) (hn : l.length ≤ 1000000) :
  LV Tryz.prog 187 [.a (.d (musD l)), .agg r.A, .agg (can c).A] (.a (.d (musD (plS l r c)))) := by
 have hcz : Sz c := hc.mono (by omega)
 refine LX_run (m := 0) (n0 := 0) mix Tryz.func187 rfl rfl rfl rfl ?_
 conv => whnf
 refine .c (lx_zsign (.c hcz)) ?_
 conv => whnf
 refine bs (fun h0 => ?_) (fun h0 => ?_)
 ·
  conv => whnf
  have e : c = 0 := by simpa [Int.sign_eq_zero_iff_zero] using h0
  exact .q ⟨by rw [plS, if_pos e], rfl⟩
 ·
  conv => whnf
  have e : ¬ c = 0 := by simpa [Int.sign_eq_zero_iff_zero] using h0
  refine .mk Nat (fun k => ⟨[(7, vl (.int .i64 (k : Nat))), (5, .a (.ptr 1 0)), (4, .a (.ptr 0 0)), (0, .a (.d (musD l)))], [(0, .box 108 r.A), (1, .box 37 (can c).A)], 2⟩) (fun k => k ≤ l.length ∧ ∀ (j : Nat) m, j < k → l[j]? = some m → lessB m.r r = true) (fun k => l.length - k) 0 Wk.go ⟨zL_ _, fun j m h => by omega⟩ fun k hk => ?_
  obtain ⟨hkl, hless⟩ := hk
  have hpt := plusM_take (c := c) hless
  conv => whnf
  refine bs (fun h1 => ?_) (fun h1 => ?_)
  ·
   conv => whnf
   have h1' : k < l.length := by simpa using h1
   obtain ⟨m, hm⟩ := at_some h1'
   refine .mk (k) (m.D) (rfl) (at_map hm) ?_
   conv => whnf
   conv => whnf
   refine .c (lx_less (a := m.r) (b := r)) ?_
   conv => whnf
   refine bs (fun h2 => ?_) (fun h2 => ?_)
   ·
    conv => whnf
    refine .mk (by kernel_rfl) ?_
    conv => whnf
    refine ⟨k + 1, Wk.go, ⟨h1', fun j x hj hx => ?_⟩, by omega⟩
    rcases Nat.lt_succ_iff_lt_or_eq.1 hj with h3 | h3
    ·
     exact hless j x h3 hx
    ·
     subst h3; rw [hm] at hx; injection hx with hx; rw [← hx]; exact h2
   ·
    conv => whnf
    refine .mk (by kernel_rfl) ?_
    conv => whnf
    refine .mk 0 k ((l.take k).map Mu.D) rfl rfl (zL_ _) (by simp; omega) (by simp [List.map_take]) ?_
    conv => whnf
    refine .mk ((l.take k).map Mu.D) rfl rfl (by simp; omega) ?_
    conv => whnf
    refine bT (decide_eq_true (by simp; omega)) ?_
    conv => whnf
    refine .mk (k) (m.D) (rfl) (at_map hm) ?_
    conv => whnf
    conv => whnf
    refine .mk (by kernel_rfl) ?_
    conv => whnf
    have hdr : l.drop k = m :: l.drop (k + 1) := by
     obtain ⟨q1, q2⟩ := List.getElem?_eq_some_iff.1 hm
     rw [List.drop_eq_getElem_cons q1, q2]
    refine bs (fun h3 => ?_) (fun h3 => ?_)
    ·
     conv => whnf
     refine .mk (by kernel_rfl) ?_
     conv => whnf
     have e3 : m.r = r := by
      obtain ⟨⟨a, b, c, d⟩, x⟩ := m; obtain ⟨a', b', c', d'⟩ := r
      simpa using h3
     have mz : Sz m.c := (hl m (mG_ hm)).mono (by omega)
     refine .mk (k) (m.D) (rfl) (at_map hm) ?_
     conv => whnf
     conv => whnf
     refine .c (lx_zadd (.c mz) (.c hcz)) ?_
     conv => whnf
     refine .mk ((l.take k ++ [(⟨r, m.c + c⟩ : Mu)]).map Mu.D) rfl (by rw [List.map_append]; rfl) (by simp; omega) ?_
     conv => whnf
     refine .mk (by kernel_rfl) ?_
     conv => whnf
     have hw : IntKind.i64.wrap ((k : Int) + 1) = ((k + 1 : Nat) : Int) := by rw [wr64 (by omega) (by omega)]; omega
     rw [hw]
     refine .mk (k + 1) l.length ((l.drop (k + 1)).map Mu.D) rfl (by simp) (by omega) (by simp) (by rw [List.take_of_length_le (by simp), List.map_drop]) ?_
     conv => whnf
     refine .mk ((plS l r c).map Mu.D) rfl ?_ ?_ ?_
     ·
      rw [plS, if_neg e, hpt, hdr, plusM, if_neg (by rw [h2]; exact Bool.false_ne_true), if_pos e3]; simp
     ·
      have := plS_len l r c; simp; omega
     conv => whnf
     exact .s ⟨rfl, rfl⟩
    ·
     conv => whnf
     refine .mk (by kernel_rfl) ?_
     conv => whnf
     have e3 : ¬ m.r = r := by
      obtain ⟨⟨a, b, c, d⟩, x⟩ := m; obtain ⟨a', b', c', d'⟩ := r
      intro h; simp at h; simp [h] at h3
     refine .c (lx_zcanon (.c hcz)) ?_
     conv => whnf
     refine .mk ((l.take k ++ [(⟨r, c⟩ : Mu)]).map Mu.D) rfl (by rw [List.map_append]; rfl) (by simp; omega) ?_
     conv => whnf
     refine .mk (by kernel_rfl) ?_
     conv => whnf
     refine .mk k l.length ((l.drop k).map Mu.D) rfl (by simp) (by omega) (by simp) (by rw [List.take_of_length_le (by simp), List.map_drop]) ?_
     conv => whnf
     refine .mk ((plS l r c).map Mu.D) rfl ?_ ?_ ?_
     ·
      rw [plS, if_neg e, hpt, hdr, plusM, if_neg (by rw [h2]; exact Bool.false_ne_true), if_neg e3]; simp
     ·
      have := plS_len l r c; simp; omega
     conv => whnf
     exact .s ⟨rfl, rfl⟩
  ·
   conv => whnf
   refine .mk (by kernel_rfl) ?_
   conv => whnf
   have e2 : k = l.length := by simp at h1; omega
   refine .mk 0 k ((l.take k).map Mu.D) rfl rfl (zL_ _) (by simp; omega) (by simp [List.map_take]) ?_
   conv => whnf
   refine .mk ((l.take k).map Mu.D) rfl rfl (by simp; omega) ?_
   conv => whnf
   refine bF (decide_eq_false (by simp; omega)) ?_
   conv => whnf
   refine .mk (by kernel_rfl) ?_
   conv => whnf
   refine .c (lx_zcanon (.c hcz)) ?_
   conv => whnf
   refine .mk ((l.take k ++ [(⟨r, c⟩ : Mu)]).map Mu.D) rfl (by rw [List.map_append]; rfl) (by simp; omega) ?_
   conv => whnf
   refine .mk (by kernel_rfl) ?_
   conv => whnf
   refine .mk k l.length ((l.drop k).map Mu.D) rfl (by simp) (by omega) (by simp) (by rw [List.take_of_length_le (by simp), List.map_drop]) ?_
   conv => whnf
   refine .mk ((plS l r c).map Mu.D) rfl ?_ ?_ ?_
   ·
    rw [plS, if_neg e, hpt, List.drop_eq_nil_of_le (by omega), plusM]; simp
   ·
    have := plS_len l r c; simp; omega
   conv => whnf
   exact .s ⟨rfl, rfl⟩
def wsum (φ : Ro → Rat) : List Mu → Rat
 | [] => 0
 | m :: l => m.c * φ m.r + wsum φ l
theorem wsum_plM (φ : Ro → Rat) (r : Ro) (c : Rat) : ∀ l : List Mu, wsum φ (plusM r c l) = wsum φ l + c * φ r
 | [] => by simp [plusM, wsum, Rat.add_zero, Rat.zero_add]
 | m :: l => by
   rw [plusM]
   split
   ·
    rw [wsum, wsum_plM φ r c l, wsum, Rat.add_assoc]
   ·
    split
    ·
     rename_i h; simp only [wsum, h]; grind
    ·
     simp only [wsum]; grind
theorem wsum_plS (φ : Ro → Rat) (r : Ro) (c : Rat) (l : List Mu) : wsum φ (plS l r c) = wsum φ l + c * φ r := by
 unfold plS
 split
 ·
  rename_i h; rw [h, Rat.zero_mul, Rat.add_zero]
 ·
  exact wsum_plM φ r c l
theorem plM_mem {r : Ro} {c : Rat} : ∀ {l : List Mu}, ∀ m ∈ plusM r c l, (m.r = r ∧ (m.c = c ∨ ∃ m0 ∈ l, m.c = m0.c + c)) ∨ m ∈ l
 | [], m, h => by rw [plusM, List.mem_singleton] at h; subst h; exact .inl ⟨rfl, .inl rfl⟩
 | x :: l, m, h => by
   rw [plusM] at h
   split at h
   ·
    rcases List.mem_cons.1 h with rfl | h
    ·
     exact .inr (by simp)
    ·
     rcases plM_mem m h with ⟨h1, h2 | ⟨m0, h2, h3⟩⟩ | h1
     ·
      exact .inl ⟨h1, .inl h2⟩
     ·
      exact .inl ⟨h1, .inr ⟨m0, by simp [h2], h3⟩⟩
     ·
      exact .inr (by simp [h1])
   ·
    split at h
    ·
     rcases List.mem_cons.1 h with rfl | h
     ·
      exact .inl ⟨rfl, .inr ⟨x, by simp, rfl⟩⟩
     ·
      exact .inr (by simp [h])
    ·
     rcases List.mem_cons.1 h with rfl | h
     ·
      exact .inl ⟨rfl, .inl rfl⟩
     ·
      exact .inr h
theorem MuB.up {K K' : Nat} {l : List Mu} (h : MuB K l) (hk : K ≤ K') : MuB K' l := fun m hm => (h m hm).mono hk
theorem MuB.plS {K k : Nat} {l : List Mu} {r : Ro} {c : Rat} (h : MuB K l) (hc : Bt k c) : MuB (K + k + 1) (plS l r c) := by
 unfold Lf.plS
 split
 ·
  exact h.up (by omega)
 ·
  intro m hm
  rcases plM_mem m hm with ⟨_, h2 | ⟨m0, h2, h3⟩⟩ | h1
  ·
   rw [h2]; exact hc.mono (by omega)
  ·
   rw [h3]; exact (h m0 h2).add hc
  ·
   exact (h m h1).mono (by omega)
theorem plS_rows {P : Ro → Prop} {l : List Mu} {r : Ro} {c : Rat} (h : ∀ m ∈ l, P m.r) (hr : P r) : ∀ m ∈ plS l r c, P m.r := by
 unfold plS
 split
 ·
  exact h
 ·
  intro m hm
  rcases plM_mem m hm with ⟨h1, _⟩ | h1
  ·
   rw [h1]; exact hr
  ·
   exact h m h1
def mgTo (a b : List Mu) (c : Rat) (i : Nat) : List Mu := (b.take i).foldl (fun a m => plS a m.r (m.c * c)) a
def mgS (a b : List Mu) (c : Rat) : List Mu := mgTo a b c b.length
theorem mgTo_succ {a b : List Mu} {c : Rat} {i : Nat} {m : Mu} (h : b[i]? = some m) : mgTo a b c (i + 1) = plS (mgTo a b c i) m.r (m.c * c) := by
 unfold mgTo
 rw [take_snoc h, List.foldl_append]; rfl
theorem mgTo_b {K kb kc : Nat} {a b : List Mu} {c : Rat} (ha : MuB K a) (hb : MuB kb b) (hc : Bt kc c) : ∀ i, i ≤ b.length → MuB (K + i * (kb + kc + 1)) (mgTo a b c i) ∧ (mgTo a b c i).length ≤ a.length + i
 | 0, _ => ⟨by rw [Nat.zero_mul]; exact ha, lR_ _⟩
 | i + 1, h => by
   obtain ⟨m, hm⟩ := at_some (l := b) (i := i) (by omega)
   obtain ⟨h1, h2⟩ := mgTo_b ha hb hc i (by omega)
   rw [mgTo_succ hm]
   refine ⟨(h1.plS ((hb m (mG_ hm)).mul hc)).up (by rw [Nat.add_mul, Nat.one_mul]; omega), ?_⟩
   have := plS_len (mgTo a b c i) m.r (m.c * c)
   omega
theorem wsum_mg (φ : Ro → Rat) (c : Rat) (b : List Mu) : ∀ a, wsum φ (b.foldl (fun a m => plS a m.r (m.c * c)) a) = wsum φ a + wsum φ b * c := by
 induction b with
 | nil => intro a; simp [wsum, Rat.add_zero]
 | cons m b ih => intro a; rw [List.foldl_cons, ih, wsum_plS, wsum]; grind
theorem wsum_mgS (φ : Ro → Rat) (a b : List Mu) (c : Rat) : wsum φ (mgS a b c) = wsum φ a + wsum φ b * c := by
 rw [mgS, mgTo, List.take_length]; exact wsum_mg φ c b a
theorem mgS_rows {P : Ro → Prop} {a b : List Mu} {c : Rat} (h : ∀ m ∈ a, P m.r) (hb : ∀ m ∈ b, P m.r) : ∀ m ∈ mgS a b c, P m.r := by
 rw [mgS, mgTo, List.take_length]
 induction b generalizing a with
 | nil => exact h
 | cons x b ih => exact ih (plS_rows h (hb x (by simp))) fun m hm => hb m (by simp [hm])
theorem lx_merge {a b : List Mu} {c : Rat} {K kb kc : Nat} (ha : MuB K a) (hb : MuB kb b) (hc : Bt kc c) (hk : K + b.length * (kb + kc + 1) + (kb + kc + 1) ≤ 3000000000) (hl : a.length + b.length ≤ 900000) :
  LV Tryz.prog 184 [.a (.d (musD a)), .a (.d (musD b)), .agg (can c).A] (.a (.d (musD (mgS a b c)))) := by
 refine LX_run (m := 0) (n0 := 0) mix Tryz.func184 rfl rfl rfl rfl ?_
 conv => whnf
 refine .mk Nat (fun i => ⟨[(7, vl (.int .i64 (i : Nat))), (5, .a (.ptr 0 0)), (1, .a (.d (musD b))), (0, .a (.d (musD (mgTo a b c i))))], [(0, .box 37 (can c).A)], 1⟩) (fun i => i ≤ b.length) (fun i => b.length - i) 0 Wk.go (zL_ _) fun i hi => ?_
 conv => whnf
 conv => whnf
 refine bs (fun h1 => ?_) (fun h1 => ?_)
 ·
  conv => whnf
  have h1' : i < b.length := by simpa using h1
  obtain ⟨m, hm⟩ := at_some h1'
  have hmb := hb m (mG_ hm)
  obtain ⟨h2, h3⟩ := mgTo_b ha hb hc i hi
  have h4 : i * (kb + kc + 1) ≤ b.length * (kb + kc + 1) := Nat.mul_le_mul_right _ hi
  refine .mk (i) (m.D) (rfl) (at_map hm) ?_
  conv => whnf
  conv => whnf
  refine .mk (i) (m.D) (rfl) (at_map hm) ?_
  conv => whnf
  conv => whnf
  refine .c (lx_zmul (.c (hmb.mono (by omega))) (.c (hc.mono (by omega)))) ?_
  conv => whnf
  refine .c (lx_mplus (r := m.r) h2 (hmb.mul hc) (by omega) (by omega)) ?_
  conv => whnf
  refine .mk (by kernel_rfl) ?_
  conv => whnf
  exact ⟨i + 1, by rw [mgTo_succ hm]; exact Wk.go, h1', by omega⟩
 ·
  conv => whnf
  have e : i = b.length := by simp at h1; omega
  subst e
  exact .q ⟨rfl, rfl⟩
theorem lx_canon {l : List Mu} {K : Nat} (hl : MuB K l) (hk : K ≤ 3000000000) (hn : l.length ≤ 1000000) : ∃ b, LV Tryz.prog 203 [.a (.d (musD l))] (vl (.bool b)) := by
 suffices hh : LX Tryz.prog 203 [.a (.d (musD l))] [] fun v H => ∃ b, v = vl (.bool b) ∧ H = [] by
  obtain ⟨v, H', ⟨b, rfl, rfl⟩, hc⟩ := hh
  exact ⟨b, _, _, ⟨rfl, rfl⟩, hc⟩
 refine LX_run (m := 0) (n0 := 0) mix Tryz.func203 rfl rfl rfl rfl ?_
 conv => whnf
 refine .mk Nat (fun i => ⟨[(3, vl (.int .i64 (i : Nat))), (0, .a (.d (musD l)))], [], 0⟩) (fun i => i ≤ l.length) (fun i => l.length - i) 0 Wk.go (zL_ _) fun i hi => ?_
 conv => whnf
 conv => whnf
 refine bs (fun h1 => ?_) (fun h1 => ?_)
 ·
  conv => whnf
  have h1' : i < l.length := by simpa using h1
  obtain ⟨m, hm⟩ := at_some h1'
  have mz : Sz m.c := (hl m (mG_ hm)).mono hk
  obtain ⟨p, hp⟩ : ∃ p, 0 < i → l[i - 1]? = some p := by
   rcases eP_ i with h0 | h0
   ·
    exact ⟨m, fun h => by omega⟩
   ·
    obtain ⟨p, hp⟩ := at_some (l := l) (i := i - 1) (by omega); exact ⟨p, fun _ => hp⟩
  repeat' first | (refine bs (fun h => ?_) (fun h => ?_) <;> conv => whnf) | (refine Nc.mk (by kernel_rfl) ?_; conv => whnf) | (refine .c (lx_zokc mz) ?_; conv => whnf) | (refine .c (lx_zsign (.c mz)) ?_; conv => whnf) | (refine .c (lx_less (a := p.r) (b := m.r)) ?_; conv => whnf) | (refine .mk (i - 1) p.D (by rw [wr64 (by omega) (by omega)]; have := of_decide_eq_true ‹decide ((i : Int) > 0) = true›; omega) (at_map (hp (by have := of_decide_eq_true ‹decide ((i : Int) > 0) = true›; omega))) ?_; conv => whnf) | (refine .mk i m.D rfl (at_map hm) ?_; conv => whnf)
  all_goals first
   | exact .q ⟨_, rfl, rfl⟩
   | exact ⟨i + 1, Wk.go, h1', by omega⟩
 ·
  conv => whnf
  exact .q ⟨_, rfl, rfl⟩
theorem numS0_A : (numS 0).A = [.d (.sl 4 []), .d (.lit (.bool false)), .d (.nat 0), .d (.nat 0)] := by
 show A.d _ :: (can 0).A = _
 rw [can0]; rfl
theorem wsum_app (φ : Ro → Rat) (m : Mu) : ∀ l : List Mu, wsum φ (l ++ [m]) = wsum φ l + m.c * φ m.r
 | [] => by simp [wsum, Rat.add_zero, Rat.zero_add]
 | x :: l => by simp only [List.cons_append, wsum, wsum_app φ m l, Rat.add_assoc]
theorem FB.z (k : Nat) (n : Int) : FB k n (numS 0) := FB.num (bt0 k)
theorem lx_sum {s : Sp} {l : List Mu} {φ : Ro → Rat} {n : Nat} {K kf kc : Nat} (hl : MuB kc l) (hn : l.length ≤ 1000) (hN : n ≤ 10000) (hk : (l.length + 1) * (kf + kc + 1) ≤ 1000000000)
  (hF : ∀ m ∈ l, ∃ (f : Af) (ok : Bool), FB kf n f ∧ (ok = true → f.c = φ m.r) ∧ LV Tryz.prog 204 [.agg s.A, .agg m.r.A] (.tup [.g f.A, .s (.d (.lit (.bool ok)))])) :
  ∃ (g : Af) (e : Int), FB (l.length * (kf + kc + 1)) n g ∧ (g.c = wsum φ l ∨ g.c = 0) ∧ LV Tryz.prog 185 [.agg s.A, .a (.d (musD l))] (.tup [.g g.A, .s (.d (.lit (.int .i64 e)))]) := by
 suffices hh : LX Tryz.prog 185 [.agg s.A, .a (.d (musD l))] [] fun v H => ∃ (g : Af) (e : Int), (FB (l.length * (kf + kc + 1)) n g ∧ (g.c = wsum φ l ∨ g.c = 0)) ∧ v = .tup [.g g.A, .s (.d (.lit (.int .i64 e)))] ∧ H = [] by
  obtain ⟨v, H', ⟨g, e, ⟨h1, h2⟩, rfl, rfl⟩, hc⟩ := hh
  exact ⟨g, e, h1, h2, _, _, ⟨rfl, rfl⟩, hc⟩
 have hkc : kc ≤ (l.length + 1) * (kf + kc + 1) := tL_ (by omega) (Nat.le_mul_of_pos_left (kf + kc + 1) (by omega : 0 < l.length + 1))
 obtain ⟨b, hcn⟩ := lx_canon hl (by omega) (by omega)
 refine LX_run (m := 0) (n0 := 0) mix Tryz.func185 rfl rfl rfl rfl ?_
 conv => whnf
 refine .c (hcn) ?_
 conv => whnf
 refine bs (fun h0 => ?_) (fun h0 => ?_)
 ·
  conv => whnf
  refine .mk (Nat × Af) (fun (i, g) => ⟨[(7, vl (.int .i64 (i : Nat))), (6, .a (.ptr 2 0)), (4, .a (.ptr 1 0)), (2, .a (.ptr 0 0)), (1, .a (.d (musD l)))], [(0, .box 43 s.A), (1, .box 39 [.d (.lit (.slice none 0 0)), .d (.lit (.bool false)), .d (.nat 0), .d (.nat 0)]), (2, .box 39 g.A)], 3⟩)
   (fun b => b.1 ≤ l.length ∧ FB (b.1 * (kf + kc + 1)) n b.2 ∧ b.2.c = wsum φ (l.take b.1)) (fun b => l.length - b.1) (0, numS 0) ?_ ⟨zL_ _, FB.z _ _, rfl⟩ fun ⟨i, g⟩ hb => ?_
  ·
   exact Wk.go (h2 := ⟨⟨_, rfl, wke_refl _, rfl⟩, ⟨_, rfl, wke_refl _, rfl⟩, ⟨_, rfl, ⟨_, rfl, by rw [numS0_A]; exact ⟨WkA.nil, aR_ _, aR_ _, aR_ _, trivial⟩⟩, rfl⟩, trivial⟩)
  obtain ⟨hi, hg, hc⟩ := hb
  simp only at hi hg hc
  conv => whnf
  refine bs (fun h1 => ?_) (fun h1 => ?_)
  ·
   conv => whnf
   have h1' : i < l.length := by simpa using h1
   obtain ⟨m, hm⟩ := at_some h1'
   have hml := mG_ hm
   obtain ⟨f, ok, f1, f2, f3⟩ := hF m hml
   have hmul : (i + 1) * (kf + kc + 1) ≤ (l.length + 1) * (kf + kc + 1) := Nat.mul_le_mul_right _ (by omega)
   have hmul2 : (i + 1) * (kf + kc + 1) = i * (kf + kc + 1) + (kf + kc + 1) := by rw [Nat.add_mul, Nat.one_mul]
   refine .mk (i) (m.D) (rfl) (at_map hm) ?_
   conv => whnf
   conv => whnf
   refine .c (f3) ?_
   conv => whnf
   refine bs (fun h2 => ?_) (fun h2 => ?_)
   ·
    conv => whnf
    refine .mk (by kernel_rfl) ?_
    conv => whnf
    refine .mk (i) (m.D) (rfl) (at_map hm) ?_
    conv => whnf
    conv => whnf
    refine .c (lx_scale f1 (hl m hml) (by omega) (by omega) (by omega)) ?_
    conv => whnf
    refine .c (lx_add hg (f1.scale (hl m hml)) (by omega) (by omega) (by omega)) ?_
    conv => whnf
    refine .mk (by kernel_rfl) ?_
    conv => whnf
    refine ⟨(i + 1, addS g (scaleS f m.c)), Wk.go, ⟨h1', (hg.add (f1.scale (hl m hml))).up (by simp only; omega) (Int.le_refl _), ?_⟩, by simp only; omega⟩
    show g.c + f.c * m.c = wsum φ (l.take (i + 1))
    rw [take_snoc hm, wsum_app, hc, f2 h2, Rat.mul_comm]
   ·
    conv => whnf
    refine .mk (by kernel_rfl) ?_
    conv => whnf
    exact .mk _ [] ⟨numS 0, _, ⟨FB.z _ _, .inr rfl⟩, rfl, rfl⟩ (WkV.tup ⟨by rw [numS0_A]; exact ⟨WkA.nil, aR_ _, aR_ _, aR_ _, trivial⟩, aR_ _, trivial⟩) rfl trivial rfl
  ·
   conv => whnf
   have e : i = l.length := by simp at h1; omega
   rw [e, List.take_length] at hc
   rw [e] at hg
   exact .q ⟨g, _, ⟨hg, .inl hc⟩, rfl, rfl⟩
 ·
  conv => whnf
  exact .mk _ [] ⟨numS 0, _, ⟨FB.z _ _, .inr rfl⟩, rfl, rfl⟩ (WkV.tup ⟨by rw [numS0_A]; exact ⟨WkA.nil, aR_ _, aR_ _, aR_ _, trivial⟩, aR_ _, trivial⟩) rfl trivial rfl
theorem lx_num {q : Rat} (h : Sz q) : LV Tryz.prog 212 [.agg (can q).A] (.agg (numS q).A) := by
 refine LX_run (m := 0) (n0 := 0) mix Tryz.func212 rfl rfl rfl rfl ?_
 conv => whnf
 exact .mk _ [] ⟨rfl, rfl⟩ (WkV.agg ⟨WkA.nil, aR_ _, aR_ _, aR_ _, trivial⟩) rfl trivial rfl
def m1 : Rat := ((-1 : Int) : Rat)
theorem m1_b : Bt 0 m1 := Bt.int (by decide)
theorem lx_zofm : LV Tryz.prog 19 [vl (.int .i64 (-1))] (ratV m1) := lx_zof (z := -1) (by decide) (by decide)
theorem lx_sub {f g : Af} {n : Int} {k l : Nat} (h : FB k n f) (h' : FB l n g) (h0 : 0 ≤ n) (hn : n ≤ 100000) (hk : k + l + 1 ≤ 1000000000) : LV Tryz.prog 186 [.agg f.A, .agg g.A] (.agg (subS f g).A) := by
 refine LX_run (m := 0) (n0 := 0) mix Tryz.func186 rfl rfl rfl rfl ?_
 conv => whnf
 refine .c (lx_zofm) ?_
 conv => whnf
 refine .c (lx_scale h' m1_b h0 hn (by omega)) ?_
 conv => whnf
 refine .c (lx_add h (h'.scale m1_b) h0 hn (by omega)) ?_
 conv => whnf
 refine .mk (by kernel_rfl) ?_
 conv => whnf
 exact .q ⟨rfl, rfl⟩
def lmOk (s : Sp) (n u : Int) (up : Bool) : Bool := decide (1 ≤ n) && decide (n ≤ (s.ls.length : Int)) && decide ((atL s.ls n).u = u) && ((atL s.ls n).up == up)
def lmV (s : Sp) (n u : Int) (up : Bool) : Rat := bif lmOk s n u up then vAt s.ls n else 0
theorem lx_lemma {s : Sp} {n u : Int} {up : Bool} (hs : SpOk s) (hn : -1000000 ≤ n ∧ n ≤ 2000000) :
  LV Tryz.prog 218 [.agg s.A, vl (.int .i64 n), vl (.int .i64 u), vl (.bool up)] (.tup [.g (can (lmV s n u up)).A, .s (.d (.lit (.bool (lmOk s n u up))))]) := by
 have hl := hs.ll
 by_cases h1 : 1 ≤ n ∧ n ≤ s.ls.length
 ·
  have ha := atL_some (z := n) (ls := s.ls) (by omega) h1.2
  have hsm := atL_sm hs.ln n
  have hz : IntKind.i64.wrap (n - 1) = ((n - 1).toNat : Int) := by rw [wr64 (by omega) (by omega)]; omega
  have hV : lmV s n u up = bif lmOk s n u up then (atL s.ls n).v.q else 0 := rfl
  have hO : lmOk s n u up = (decide ((atL s.ls n).u = u) && ((atL s.ls n).up == up)) := by simp [lmOk, h1.1, h1.2]
  generalize atL s.ls n = m at *
  obtain ⟨mu, mup, mv, mp⟩ := m
  simp only at hO hV hsm
  have hF : lmOk s n u up = false → V.tup [.g [.d (.lit (.bool false)), .d (.lm (limbs 0)), .d (.lm (limbs 0))], .s (.d (.lit (.bool false)))] = V.tup [.g (can (lmV s n u up)).A, .s (.d (.lit (.bool (lmOk s n u up))))] := fun e => by
   rw [hV, e]; show _ = V.tup [.g (can 0).A, _]; rw [can0]
  have hT : lmOk s n u up = true → V.tup [.g (can mv.q).A, .s (.d (.lit (.bool true)))] = V.tup [.g (can (lmV s n u up)).A, .s (.d (.lit (.bool (lmOk s n u up))))] := fun e => by
   rw [hV, e]; rfl
  cases up <;> cases mup
  all_goals refine LX_run (m := 0) (n0 := 0) mix Tryz.func218 rfl rfl rfl rfl ?_
            conv => whnf
  all_goals refine bF (decide_eq_false (by omega)) ?_
            conv => whnf
  all_goals refine bF (decide_eq_false (by simp; omega)) ?_
            conv => whnf
  all_goals (repeat' first | (refine bs (fun h => ?_) (fun h => ?_) <;> conv => whnf) | (refine Nc.mk (by kernel_rfl) ?_; conv => whnf) | (refine .c (lx_zcanon hsm.rq) ?_; conv => whnf) | (refine .mk (n - 1).toNat (Lm.D ⟨mu, _, mv, mp⟩) hz (at_map ha) ?_; conv => whnf))
  all_goals first
   | exact .q ⟨hT (by rw [hO]; simp_all), rfl⟩
   | exact .q ⟨hF (by rw [hO]; simp_all), rfl⟩
 ·
  have hO : lmOk s n u up = false := by
   unfold lmOk
   by_cases h : n < 1
   ·
    simp; omega
   ·
    simp; omega
  have hF : V.tup [.g [.d (.lit (.bool false)), .d (.lm (limbs 0)), .d (.lm (limbs 0))], .s (.d (.lit (.bool false)))] = V.tup [.g (can (lmV s n u up)).A, .s (.d (.lit (.bool (lmOk s n u up))))] := by
   rw [lmV, hO]; show _ = V.tup [.g (can 0).A, _]; rw [can0]
  refine LX_run (m := 0) (n0 := 0) mix Tryz.func218 rfl rfl rfl rfl ?_
  conv => whnf
  refine bs (fun h2 => ?_) (fun h2 => ?_)
  ·
   conv => whnf
   exact .q ⟨hF, rfl⟩
  ·
   conv => whnf
   refine bT (decide_eq_true (by simp at h2 ⊢; omega)) ?_
   conv => whnf
   exact .q ⟨hF, rfl⟩
def frmU (v : Int) (p : Af) (l u : Rat) (k : Int) : Af :=
 if k = 5 then varS v else if k = 8 then subS p (varS v) else if k = 10 then scaleS (varS v) m1 else if k = 12 then subS (numS u) p
 else subS (scaleS (subS p (numS l)) u) (scaleS (varS v) (u - l))
def RoU (r : Ro) : Prop := (r.k = 5 ∧ r.l = 0 ∧ r.h = 0) ∨ (r.k = 8 ∧ 1 ≤ r.l ∧ r.h = 0) ∨ (r.k = 10 ∧ r.l = 0 ∧ 1 ≤ r.h) ∨ (r.k = 12 ∧ r.l = 0 ∧ 1 ≤ r.h) ∨ (r.k = 13 ∧ 1 ≤ r.l ∧ 1 ≤ r.h)
theorem frmU_b {v : Int} {p : Af} {l u : Rat} {n : Int} {B : Nat} (k : Int) (h0 : 0 ≤ v) (hv : v < n) (hp : FB 5 n p) (hl : Bt B l) (hu : Bt B u) : FB (4 * B + 8) n (frmU v p l u k) := by
 unfold frmU
 repeat' split
 ·
  exact (FB.var h0 hv).up (by omega) (Int.le_refl _)
 ·
  exact (hp.sub (FB.var h0 hv)).up (by omega) (Int.le_refl _)
 ·
  exact ((FB.var h0 hv).scale m1_b).up (by omega) (Int.le_refl _)
 ·
  exact ((FB.num hu).sub hp).up (by omega) (Int.le_refl _)
 ·
  exact (((hp.sub (FB.num hl)).scale hu).sub ((FB.var h0 hv).scale (hu.sub hl))).up (by omega) (Int.le_refl _)
theorem lx_unit21 {s : Sp} {r : Ro} {j : Nat} {p : Af} {B : Nat} (hs : SpOk s) (hr : RoU r) (hj : r.i = j) (hp : s.q.g.us[j]? = some p) (hpf : FB 5 (s.q.g.n + s.q.g.us.length : Nat) p)
  (hl : Bt B (lmV s r.l r.i false)) (hu : Bt B (lmV s r.h r.i true)) (hB : 4 * B + 8 ≤ 1000000000) (hlh : r.l ≤ 1000000 ∧ r.h ≤ 1000000) :
  ∃ ok : Bool, LV Tryz.prog 211 [.agg s.A, .agg r.A] (.tup [.g (cond ok (frmU (s.q.g.n + j : Nat) p (lmV s r.l r.i false) (lmV s r.h r.i true) r.k) (numS 0)).A, .s (.d (.lit (.bool ok)))]) := by
 suffices hh : LX Tryz.prog 211 [.agg s.A, .agg r.A] [] fun v H => ∃ ok : Bool, v = .tup [.g (cond ok (frmU (s.q.g.n + j : Nat) p (lmV s r.l r.i false) (lmV s r.h r.i true) r.k) (numS 0)).A, .s (.d (.lit (.bool ok)))] ∧ H = [] by
  obtain ⟨v, H', ⟨ok, rfl, rfl⟩, hc⟩ := hh
  exact ⟨ok, _, _, ⟨rfl, rfl⟩, hc⟩
 obtain ⟨rk, ri, rl, rh⟩ := r
 simp only at hj hl hu hlh hr ⊢
 subst hj
 have hjl := at_lt hp
 have hn2 := hs.q.g.n2; have hu1 := hs.q.g.u1
 have hw : IntKind.i64.wrap ((s.q.g.n : Int) + (j : Int)) = ((s.q.g.n + j : Nat) : Int) := by rw [wr64 (by omega) (by omega)]; omega
 have fV := FB.var (n := ((s.q.g.n + s.q.g.us.length : Nat) : Int)) (v := ((s.q.g.n + j : Nat) : Int)) (by omega) (by omega)
 have hneg : 0 ≤ rl ∧ 0 ≤ rh := by rcases hr with h | h | h | h | h <;> simp only at h <;> omega
 have c1 := lx_lemma (n := rl) (u := (j : Int)) (up := false) hs (by omega)
 have c2 := lx_lemma (n := rh) (u := (j : Int)) (up := true) hs (by omega)
 show LX Tryz.prog _ [.agg s.A, .agg [.d (.lit (.int .i64 rk)), .d (.lit (.int .i64 j)), .d (.lit (.int .i64 rl)), .d (.lit (.int .i64 rh))]] [] _
 have n1 : ∀ {x : Int}, 1 ≤ x → (x == 0) = false := fun h => by simp; omega
 generalize hlv : lmV s rl j false = l at *
 generalize huv : lmV s rh j true = u at *
 have lz : Sz l := hl.mono (by omega)
 have uz : Sz u := hu.mono (by omega)
 rcases hr with ⟨rfl, rfl, rfl⟩ | ⟨rfl, h1, rfl⟩ | ⟨rfl, rfl, h1⟩ | ⟨rfl, rfl, h1⟩ | ⟨rfl, h1, h2⟩
 all_goals refine LX_run (m := 0) (n0 := 0) mix Tryz.func211 rfl rfl rfl rfl ?_
           conv => whnf
 all_goals refine bF (decide_eq_false (show ¬ (j : Int) ≥ ((s.q.g.us.map Af.D).length : Int) by rw [List.length_map]; omega)) ?_
           conv => whnf
 all_goals rw [hw]
 all_goals refine .c (lx_zvar) ?_
           conv => whnf
 all_goals refine .mk j p.D (by rfl) (at_map hp) ?_
 all_goals conv => whnf
 all_goals refine .mk (by kernel_rfl) ?_
           conv => whnf
 ·
  repeat' first | (refine bs (fun h => ?_) (fun h => ?_) <;> conv => whnf) | (refine Nc.mk (by kernel_rfl) ?_; conv => whnf) | (refine .c (c1) ?_; conv => whnf) | (refine .c (c2) ?_; conv => whnf) | (refine .c (lx_zofm) ?_; conv => whnf) | (refine .c (lx_zdecided hs) ?_; conv => whnf) | (refine .c (lx_zsign (.c lz)) ?_; conv => whnf) | (refine .c (lx_zsign (.c uz)) ?_; conv => whnf)
  all_goals first
   | exact .q ⟨true, rfl, rfl⟩
   | exact .mk _ [] ⟨false, rfl, rfl⟩ (WkV.tup ⟨by show All2 WkA _ (numS 0).A; rw [numS0_A]; exact ⟨WkA.nil, aR_ _, aR_ _, aR_ _, trivial⟩, aR_ _, trivial⟩) rfl trivial rfl
 ·
  repeat' first | (refine bF (n1 h1) ?_; conv => whnf) | (refine bs (fun h => ?_) (fun h => ?_) <;> conv => whnf) | (refine Nc.mk (by kernel_rfl) ?_; conv => whnf) | (refine .c (c1) ?_; conv => whnf) | (refine .c (c2) ?_; conv => whnf) | (refine .c (lx_zofm) ?_; conv => whnf) | (refine .c (lx_zdecided hs) ?_; conv => whnf) | (refine .c (lx_zsign (.c lz)) ?_; conv => whnf) | (refine .c (lx_zsign (.c uz)) ?_; conv => whnf) | (refine .c (lx_sub hpf fV (by omega) (by omega) (by omega)) ?_; conv => whnf)
  all_goals first
   | exact .q ⟨true, rfl, rfl⟩
   | exact .mk _ [] ⟨false, rfl, rfl⟩ (WkV.tup ⟨by show All2 WkA _ (numS 0).A; rw [numS0_A]; exact ⟨WkA.nil, aR_ _, aR_ _, aR_ _, trivial⟩, aR_ _, trivial⟩) rfl trivial rfl
 ·
  repeat' first | (refine bF (n1 h1) ?_; conv => whnf) | (refine bs (fun h => ?_) (fun h => ?_) <;> conv => whnf) | (refine Nc.mk (by kernel_rfl) ?_; conv => whnf) | (refine .c (c1) ?_; conv => whnf) | (refine .c (c2) ?_; conv => whnf) | (refine .c (lx_zofm) ?_; conv => whnf) | (refine .c (lx_zdecided hs) ?_; conv => whnf) | (refine .c (lx_zsign (.c lz)) ?_; conv => whnf) | (refine .c (lx_zsign (.c uz)) ?_; conv => whnf) | (refine .c (lx_scale fV m1_b (by omega) (by omega) (by omega)) ?_; conv => whnf)
  all_goals first
   | exact .q ⟨true, rfl, rfl⟩
   | exact .mk _ [] ⟨false, rfl, rfl⟩ (WkV.tup ⟨by show All2 WkA _ (numS 0).A; rw [numS0_A]; exact ⟨WkA.nil, aR_ _, aR_ _, aR_ _, trivial⟩, aR_ _, trivial⟩) rfl trivial rfl
 ·
  repeat' first | (refine bF (n1 h1) ?_; conv => whnf) | (refine bs (fun h => ?_) (fun h => ?_) <;> conv => whnf) | (refine Nc.mk (by kernel_rfl) ?_; conv => whnf) | (refine .c (c1) ?_; conv => whnf) | (refine .c (c2) ?_; conv => whnf) | (refine .c (lx_zofm) ?_; conv => whnf) | (refine .c (lx_zdecided hs) ?_; conv => whnf) | (refine .c (lx_zsign (.c lz)) ?_; conv => whnf) | (refine .c (lx_zsign (.c uz)) ?_; conv => whnf) | (refine .c (lx_num uz) ?_; conv => whnf) | (refine .c (lx_sub (FB.num hu) hpf (by omega) (by omega) (by omega)) ?_; conv => whnf)
  all_goals first
   | exact .q ⟨true, rfl, rfl⟩
   | exact .mk _ [] ⟨false, rfl, rfl⟩ (WkV.tup ⟨by show All2 WkA _ (numS 0).A; rw [numS0_A]; exact ⟨WkA.nil, aR_ _, aR_ _, aR_ _, trivial⟩, aR_ _, trivial⟩) rfl trivial rfl
 ·
  repeat' first | (refine bF (n1 h1) ?_; conv => whnf) | (refine bF (n1 h2) ?_; conv => whnf) | (refine bs (fun h => ?_) (fun h => ?_) <;> conv => whnf) | (refine Nc.mk (by kernel_rfl) ?_; conv => whnf) | (refine .c (c1) ?_; conv => whnf) | (refine .c (c2) ?_; conv => whnf) | (refine .c (lx_zofm) ?_; conv => whnf) | (refine .c (lx_zdecided hs) ?_; conv => whnf) | (refine .c (lx_zsign (.c lz)) ?_; conv => whnf) | (refine .c (lx_zsign (.c uz)) ?_; conv => whnf) | (refine .c (lx_num lz) ?_; conv => whnf) | (refine .c (lx_sub hpf (FB.num hl) (by omega) (by omega) (by omega)) ?_; conv => whnf) | (refine .c (lx_scale (hpf.sub (FB.num hl)) hu (by omega) (by omega) (by omega)) ?_; conv => whnf) | (refine .c (lx_zsub (.c uz) (.c lz)) ?_; conv => whnf) | (refine .c (lx_scale fV (hu.sub hl) (by omega) (by omega) (by omega)) ?_; conv => whnf) | (refine .c (lx_sub ((hpf.sub (FB.num hl)).scale hu) (fV.scale (hu.sub hl)) (by omega) (by omega) (by omega)) ?_; conv => whnf)
  all_goals first
   | exact .q ⟨true, rfl, rfl⟩
   | exact .mk _ [] ⟨false, rfl, rfl⟩ (WkV.tup ⟨by show All2 WkA _ (numS 0).A; rw [numS0_A]; exact ⟨WkA.nil, aR_ _, aR_ _, aR_ _, trivial⟩, aR_ _, trivial⟩) rfl trivial rfl
def atQ (l : List Rat) (i : Int) : Rat := (l[i.toNat]?).getD 0
def atF (l : List Af) (i : Int) : Af := (l[i.toNat]?).getD (numS 0)
def frmS (s : Sp) (r : Ro) : Af :=
 if r.k = 1 then subS (varS r.i) (numS (atQ s.q.r.lo r.i)) else if r.k = 2 then subS (numS (atQ s.q.r.hi r.i)) (varS r.i)
 else frmU (s.q.g.n + r.i.toNat : Nat) (atF s.q.g.us r.i) (lmV s r.l r.i false) (lmV s r.h r.i true) r.k
def RoI (s : Sp) (r : Ro) : Prop := (r.k = 1 ∨ r.k = 2) ∧ 0 ≤ r.i ∧ r.i < s.q.g.n ∧ r.l = 0 ∧ r.h = 0
structure RoV (s : Sp) (B : Nat) (r : Ro) : Prop where
 u : RoU r
 i0 : 0 ≤ r.i
 i1 : r.i < s.q.g.us.length
 l : r.l ≤ 1000000
 h : r.h ≤ 1000000
 bl : Bt B (lmV s r.l r.i false)
 bu : Bt B (lmV s r.h r.i true)
def RoOk (s : Sp) (B : Nat) (r : Ro) : Prop := RoI s r ∨ RoV s B r
theorem frmS_b {s : Sp} {B : Nat} {r : Ro} (hq : QuB s.q) (hr : RoOk s B r) : FB (4 * B + 17) (s.q.g.n + s.q.g.us.length : Nat) (frmS s r) := by
 unfold frmS
 rcases hr with ⟨h1, h2, h3, _, _⟩ | h
 ·
  have hv := FB.var (n := ((s.q.g.n + s.q.g.us.length : Nat) : Int)) (v := r.i) h2 (by omega)
  have hlo := hq.r.lo; have hhi := hq.r.hi
  rcases h1 with h1 | h1
  ·
   obtain ⟨x, hx⟩ := at_some (l := s.q.r.lo) (i := r.i.toNat) (by omega)
   have e : atQ s.q.r.lo r.i = x := by rw [atQ, hx]; rfl
   rw [if_pos h1, e]
   exact (hv.sub (FB.num (hq.r.sl x (mG_ hx)))).up (by omega) (Int.le_refl _)
  ·
   obtain ⟨x, hx⟩ := at_some (l := s.q.r.hi) (i := r.i.toNat) (by omega)
   have e : atQ s.q.r.hi r.i = x := by rw [atQ, hx]; rfl
   rw [if_neg (by omega), if_pos h1, e]
   exact ((FB.num (hq.r.sh x (mG_ hx))).sub hv).up (by omega) (Int.le_refl _)
 ·
  have hk : r.k ≠ 1 ∧ r.k ≠ 2 := by rcases h.u with h | h | h | h | h <;> omega
  have i0 := h.i0; have i1 := h.i1
  obtain ⟨p, hp⟩ := at_some (l := s.q.g.us) (i := r.i.toNat) (by omega)
  have e : atF s.q.g.us r.i = p := by rw [atF, hp]; rfl
  rw [if_neg hk.1, if_neg hk.2, e]
  exact (frmU_b (n := ((s.q.g.n + s.q.g.us.length : Nat) : Int)) r.k (by omega) (by omega) ((hq.g.us _ p hp).up (lR_ _) (by omega)) h.bl h.bu).up (by omega) (Int.le_refl _)
theorem lx_rform {s : Sp} {B : Nat} {r : Ro} (hs : SpOk s) (hq : QuB s.q) (hr : RoOk s B r) (hB : 4 * B + 17 ≤ 1000000000) :
  ∃ ok : Bool, LV Tryz.prog 204 [.agg s.A, .agg r.A] (.tup [.g (cond ok (frmS s r) (numS 0)).A, .s (.d (.lit (.bool ok)))]) := by
 have hn2 := hs.q.g.n2; have hu1 := hs.q.g.u1
 rcases hr with ⟨h1, h2, h3, h4, h5⟩ | h
 ·
  have hv := FB.var (n := ((s.q.g.n + s.q.g.us.length : Nat) : Int)) (v := r.i) h2 (by omega)
  have hlo := hq.r.lo; have hhi := hq.r.hi
  refine ⟨true, ?_⟩
  have hS : frmS s r = if r.k = 1 then subS (varS r.i) (numS (atQ s.q.r.lo r.i)) else subS (numS (atQ s.q.r.hi r.i)) (varS r.i) := by
   unfold frmS
   rcases h1 with h1 | h1
   ·
    rw [if_pos h1, if_pos h1]
   ·
    rw [if_neg (by omega), if_pos h1, if_neg (by omega)]
  obtain ⟨x, hx⟩ := at_some (l := s.q.r.lo) (i := r.i.toNat) (by omega)
  have ex : atQ s.q.r.lo r.i = x := by rw [atQ, hx]; rfl
  have fx := hq.r.sl x (mG_ hx)
  obtain ⟨y, hy⟩ := at_some (l := s.q.r.hi) (i := r.i.toNat) (by omega)
  have ey : atQ s.q.r.hi r.i = y := by rw [atQ, hy]; rfl
  have fy := hq.r.sh y (mG_ hy)
  rw [ex, ey] at hS
  obtain ⟨rk, ri, rl, rh⟩ := r
  simp only at h1 h2 h3 h4 h5 hv hx hy hS
  subst h4 h5
  rw [hS]
  show LV Tryz.prog _ [.agg s.A, .agg [.d (.lit (.int .i64 rk)), .d (.lit (.int .i64 ri)), .d (.lit (.int .i64 0)), .d (.lit (.int .i64 0))]] _
  rcases h1 with rfl | rfl
  all_goals refine LX_run (m := 0) (n0 := 0) mix Tryz.func204 rfl rfl rfl rfl ?_
            conv => whnf
  all_goals refine .c (lx_zquvalid hs.q) ?_
            conv => whnf
  all_goals refine bF (decide_eq_false (by omega)) ?_
            conv => whnf
  ·
   refine bT (decide_eq_true (by rw [List.length_map]; omega)) ?_
   conv => whnf
   refine .c (lx_zvar) ?_
   conv => whnf
   refine .mk (ri.toNat) ((can x).D) (by omega) (at_map (f := fun q => (can q).D) hx) ?_
   conv => whnf
   conv => whnf
   refine .c (lx_num (fx.mono (by decide))) ?_
   conv => whnf
   refine .c (lx_sub hv (FB.num fx) (by omega) (by omega) (by omega)) ?_
   conv => whnf
   refine .mk (by kernel_rfl) ?_
   conv => whnf
   exact .q ⟨rfl, rfl⟩
  ·
   refine bT (decide_eq_true (by rw [List.length_map]; omega)) ?_
   conv => whnf
   refine .mk (ri.toNat) ((can y).D) (by omega) (at_map (f := fun q => (can q).D) hy) ?_
   conv => whnf
   conv => whnf
   refine .c (lx_num (fy.mono (by decide))) ?_
   conv => whnf
   refine .c (lx_zvar) ?_
   conv => whnf
   refine .c (lx_sub (FB.num fy) hv (by omega) (by omega) (by omega)) ?_
   conv => whnf
   refine .mk (by kernel_rfl) ?_
   conv => whnf
   exact .q ⟨rfl, rfl⟩
 ·
  have hk : r.k ≠ 1 ∧ r.k ≠ 2 ∧ 5 ≤ r.k := by rcases h.u with h | h | h | h | h <;> omega
  have i0 := h.i0; have i1 := h.i1
  obtain ⟨p, hp⟩ := at_some (l := s.q.g.us) (i := r.i.toNat) (by omega)
  have e : atF s.q.g.us r.i = p := by rw [atF, hp]; rfl
  have hS : frmS s r = frmU (s.q.g.n + r.i.toNat : Nat) p (lmV s r.l r.i false) (lmV s r.h r.i true) r.k := by
   unfold frmS
   rw [if_neg hk.1, if_neg hk.2.1, e]
  obtain ⟨ok, c⟩ := lx_unit21 (j := r.i.toNat) hs h.u (by omega) hp ((hq.g.us _ p hp).up (lR_ _) (by omega)) h.bl h.bu (by omega) ⟨h.l, h.h⟩
  refine ⟨ok, ?_⟩
  rw [hS]
  cases ok
  all_goals refine LX_run (m := 0) (n0 := 0) mix Tryz.func204 rfl rfl rfl rfl ?_
            conv => whnf
  all_goals refine .c (lx_zquvalid hs.q) ?_
            conv => whnf
  all_goals refine bT (decide_eq_true (by omega)) ?_
            conv => whnf
  all_goals refine .c (c) ?_
            conv => whnf
  all_goals exact .q ⟨rfl, rfl⟩
end Go.Proofs.YtikglhmabidjoaaGreat.Lf
