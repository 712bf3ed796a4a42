/- Layer 38, lifted: decisions that fit, decided units, best lemmas, phases: both sides. -/
import Derived.Test.YtikglhmabidjoaaGreatDoorLgB
namespace Go.Proofs.YtikglhmabidjoaaGreatDoor.Lf
open Go.RowKit Nt
set_option linter.unusedVariables false
set_option linter.unusedSimpArgs false
set_option maxRecDepth 100000
theorem lx_zero {x : Rw} : LV Tryz.prog 140 [.agg x.A] (vl (.bool x.z0)) := by
  refine LX_run (m := 0) (n0 := 0) mix Tryz.func140 rfl rfl rfl rfl ?_
  conv => whnf
  repeat' first | (refine bs (fun h => ?_) (fun h => ?_) <;> conv => whnf) | (refine Nc.mk (by kernel_rfl) ?_; conv => whnf)
  all_goals exact .q ⟨by simp [Rw.z0, *], rfl⟩
theorem lx_fits {q : Qu} {d : Dc} (hd : d.at_.sm) : LV Tryz.prog 84 [.agg q.A, .agg d.A] (vl (.bool (fitB q d))) := by
  refine LX_run (m := 0) (n0 := 0) mix Tryz.func84 rfl rfl rfl rfl ?_
  conv => whnf
  repeat' first | (refine bs (fun h => ?_) (fun h => ?_) <;> conv => whnf) | (refine Nc.mk (by kernel_rfl) ?_; conv => whnf) | (refine .c (lx_zero) ?_; conv => whnf) | (refine .c (lx_ok hd) ?_; conv => whnf)
  all_goals exact .q ⟨by first | (simp_all [fitB]; done) | (simp_all [fitB]; intros; omega) | ((simp [fitB]; repeat' split) <;> first | (simp_all; done) | (simp_all; intros; omega)), rfl⟩
theorem lx_Fits {q : Qu} {d : Dc} (hq : QuOk q) (hd : d.at_.sm) : LV Tryz.prog 35 [.agg q.A, .agg d.A] (vl (.bool (fitB q d))) := by
  refine LX_run (m := 0) (n0 := 0) mix Tryz.func35 rfl rfl rfl rfl ?_
  conv => whnf
  refine .c (lx_quvalid hq) ?_
  conv => whnf
  repeat' first | (refine bs (fun h => ?_) (fun h => ?_) <;> conv => whnf) | (refine Nc.mk (by kernel_rfl) ?_; conv => whnf) | (refine .c (lx_fits hd) ?_; conv => whnf)
  all_goals exact .q ⟨by first | (simp_all []; done) | (simp_all []; intros; omega) | ((simp []; repeat' split) <;> first | (simp_all; done) | (simp_all; intros; omega)), rfl⟩
structure SpOk (s : Sp) : Prop where
  q : QuOk s.q
  pl : s.path.length ≤ 1000000
  pn : ∀ d ∈ s.path, d.at_.sm
  ll : s.ls.length ≤ 1000000
  ln : ∀ m ∈ s.ls, m.v.sm
  rlo : ∀ q ∈ s.q.r.lo, Bt 300000000 q
  rhi : ∀ q ∈ s.q.r.hi, Bt 300000000 q
  pb : ∀ d ∈ s.path, Bt 300000000 d.at_.q
  lb : ∀ m ∈ s.ls, Bt 300000000 m.v.q
def isD (q : Qu) (k u : Int) (d : Dc) : Bool := d.k == k && d.i == u && fitB q d
def decB (s : Sp) (k u : Int) : Bool := s.path.any (isD s.q k u)
theorem lx_dec1 {s : Sp} {k u : Int} {d : Dc} (hd : d.at_.sm) : LX Tryz.prog 199 [.agg d.A, .a (.ptr 0 0), .a (.ptr 1 0), .a (.ptr 2 0)] [(0, .box 3 [.d (.lit (.int .i64 k))]), (1, .box 3 [.d (.lit (.int .i64 u))]), (2, .box 43 s.A)]
    fun v H => v = vl (.bool (isD s.q k u d)) ∧ H = [(0, .box 3 [.d (.lit (.int .i64 k))]), (1, .box 3 [.d (.lit (.int .i64 u))]), (2, .box 43 s.A)] := by
  refine LX_run (m := 3) (n0 := 3) mix Tryz.func199 rfl rfl rfl rfl ?_
  conv => whnf
  repeat' first | (refine bs (fun h => ?_) (fun h => ?_) <;> conv => whnf) | (refine Nc.mk (by kernel_rfl) ?_; conv => whnf) | (refine .c (lx_fits hd) ?_; conv => whnf)
  all_goals exact ⟨_, _, ⟨by simp_all [isD], rfl⟩, WkV.refl _, rfl, ⟨⟨_, rfl, wke_refl _, rfl⟩, ⟨_, rfl, wke_refl _, rfl⟩, ⟨_, rfl, wke_refl _, rfl⟩, trivial⟩, rfl⟩
theorem any_idx {α : Type} (p : α → Bool) (xs : List α) : decide ((if xs.any p then (xs.findIdx p : Int) else -1) ≥ 0) = xs.any p := by
  cases h : xs.any p <;> simp
theorem any_true {α : Type} {p : α → Bool} {xs : List α} {i : Nat} {x : α} (hx : xs[i]? = some x) (h : p x = true) : xs.any p = true := List.any_eq_true.2 ⟨x, List.mem_of_getElem? hx, h⟩
theorem find_at {α : Type} {p : α → Bool} {xs : List α} {i : Nat} {x : α} (hi : ∀ j y, j < i → xs[j]? = some y → p y = false) (hx : xs[i]? = some x) (h : p x = true) : xs.findIdx p = i := by
  obtain ⟨h1, h2⟩ := List.getElem?_eq_some_iff.1 hx
  refine (List.findIdx_eq h1).2 ⟨by rw [h2]; exact h, fun j hj => ?_⟩
  exact hi j _ hj (List.getElem?_eq_getElem (by omega))
theorem any_none {α : Type} {p : α → Bool} {xs : List α} (h : ∀ (j : Nat) y, xs[j]? = some y → p y = false) : xs.any p = false := by
  rw [List.any_eq_false]
  intro x hx
  obtain ⟨j, hj⟩ := List.mem_iff_getElem?.1 hx
  simp [h j x hj]
theorem lx_cfD {F : FuncId} {fs : List Dc} {p : Dc → Bool} {k u : Int} {s : Sp} (hl : fs.length ≤ 1000000) (he : entT Tryz.prog F = true) (hF : ∀ f ∈ fs, LX Tryz.prog F (.agg f.A :: [.a (.ptr 0 0), .a (.ptr 1 0), .a (.ptr 2 0)]) [(0, .box 3 [.d (.lit (.int .i64 k))]), (1, .box 3 [.d (.lit (.int .i64 u))]), (2, .box 43 s.A)] fun v H => v = vl (.bool (p f)) ∧ H = [(0, .box 3 [.d (.lit (.int .i64 k))]), (1, .box 3 [.d (.lit (.int .i64 u))]), (2, .box 43 s.A)]) :
    LX Tryz.prog 86 [.a (.d (.sl 5 (fs.map Dc.D))), .a (.fn (.func F) [] [.ptr 0 0, .ptr 1 0, .ptr 2 0])] [(0, .box 3 [.d (.lit (.int .i64 k))]), (1, .box 3 [.d (.lit (.int .i64 u))]), (2, .box 43 s.A)] fun v H => v = vl (.bool (fs.any p)) ∧ H = [(0, .box 3 [.d (.lit (.int .i64 k))]), (1, .box 3 [.d (.lit (.int .i64 u))]), (2, .box 43 s.A)] := by
  have ix : LX Tryz.prog 141 [.a (.d (.sl 5 (fs.map Dc.D))), .a (.fn (.func F) [] [.ptr 0 0, .ptr 1 0, .ptr 2 0])] [(0, .box 3 [.d (.lit (.int .i64 k))]), (1, .box 3 [.d (.lit (.int .i64 u))]), (2, .box 43 s.A)] fun v H => v = vl (.int .i64 (if fs.any p then (fs.findIdx p : Int) else -1)) ∧ H = [(0, .box 3 [.d (.lit (.int .i64 k))]), (1, .box 3 [.d (.lit (.int .i64 u))]), (2, .box 43 s.A)] := by
    refine LX_run (m := 3) (n0 := 3) mix Tryz.func141 rfl rfl rfl rfl ?_
    conv => whnf
    refine .mk Nat (fun i => ⟨[(8, vl (.int .i64 i)), (7, vl (.int .i64 (fs.map Dc.D).length)), (1, .a (.fn (.func F) [] [.ptr 0 0, .ptr 1 0, .ptr 2 0])), (0, .a (.d (.sl 5 (fs.map Dc.D))))], [(0, .box 3 [.d (.lit (.int .i64 k))]), (1, .box 3 [.d (.lit (.int .i64 u))]), (2, .box 43 s.A)], 3⟩) (fun i => i ≤ fs.length ∧ ∀ j y, j < i → fs[j]? = some y → p y = false) (fun i => fs.length - i) 0 Wk.go ⟨Nat.zero_le _, by intro j y h; omega⟩ fun i hi => ?_
    obtain ⟨hi, hall⟩ := hi
    conv => whnf
    refine bs (fun h1 => ?_) (fun h1 => ?_)
    · conv => whnf
      have h1' : i < fs.length := by simpa using h1
      obtain ⟨f, hf⟩ := at_some h1'
      refine .mk (i) (f.D) (rfl) (at_map hf) ?_
      conv => whnf
      conv => whnf
      refine Cn.l [0, 1, 2] (hF f (List.mem_of_getElem? hf)) ?_ he
      conv => whnf
      refine bs (fun h2 => ?_) (fun h2 => ?_)
      · conv => whnf
        exact ⟨_, _, ⟨by rw [if_pos (any_true hf h2), find_at hall hf h2], rfl⟩, WkV.refl _, rfl, ⟨⟨_, rfl, wke_refl _, rfl⟩, ⟨_, rfl, wke_refl _, rfl⟩, ⟨_, rfl, wke_refl _, rfl⟩, trivial⟩, rfl⟩
      · conv => whnf
        refine ⟨i + 1, Wk.go, ⟨h1', fun j y hj hy => ?_⟩, by omega⟩
        rcases Nat.lt_succ_iff_lt_or_eq.1 hj with h3 | h3
        · exact hall j y h3 hy
        · subst h3; rw [hf] at hy; injection hy with hy; rw [← hy]; exact h2
    · conv => whnf
      exact ⟨_, _, ⟨by rw [if_neg]; rw [any_none fun j y hy => hall j y (by have := at_lt hy; simp at h1; omega) hy]; decide, rfl⟩, WkV.refl _, rfl, ⟨⟨_, rfl, wke_refl _, rfl⟩, ⟨_, rfl, wke_refl _, rfl⟩, ⟨_, rfl, wke_refl _, rfl⟩, trivial⟩, rfl⟩
  refine LX_run (m := 3) (n0 := 3) mix Tryz.func86 rfl rfl rfl rfl ?_
  conv => whnf
  refine .l [0, 1, 2] ix ?_
  conv => whnf
  refine bs (fun h => ?_) (fun h => ?_)
  · conv => whnf
    exact ⟨_, _, ⟨by rw [any_idx] at h; rw [h], rfl⟩, WkV.refl _, rfl, ⟨⟨_, rfl, wke_refl _, rfl⟩, ⟨_, rfl, wke_refl _, rfl⟩, ⟨_, rfl, wke_refl _, rfl⟩, trivial⟩, rfl⟩
  · conv => whnf
    exact ⟨_, _, ⟨by rw [any_idx] at h; rw [h], rfl⟩, WkV.refl _, rfl, ⟨⟨_, rfl, wke_refl _, rfl⟩, ⟨_, rfl, wke_refl _, rfl⟩, ⟨_, rfl, wke_refl _, rfl⟩, trivial⟩, rfl⟩
theorem lx_cfE {F : FuncId} {fs : List Dc} {p : Dc → Bool} (hl : fs.length ≤ 1000000) (he : entT Tryz.prog F = true) (hF : ∀ f ∈ fs, LV Tryz.prog F [.agg f.A] (vl (.bool (p f)))) :
    LV Tryz.prog 86 [.a (.d (.sl 5 (fs.map Dc.D))), .a (.fn (.func F) [] [])] (vl (.bool (fs.any p))) := by
  have ix : LV Tryz.prog 141 [.a (.d (.sl 5 (fs.map Dc.D))), .a (.fn (.func F) [] [])] (vl (.int .i64 (if fs.any p then (fs.findIdx p : Int) else -1))) := by
    refine LX_run (m := 0) (n0 := 0) mix Tryz.func141 rfl rfl rfl rfl ?_
    conv => whnf
    refine .mk Nat (fun i => ⟨[(8, vl (.int .i64 i)), (7, vl (.int .i64 (fs.map Dc.D).length)), (1, .a (.fn (.func F) [] [])), (0, .a (.d (.sl 5 (fs.map Dc.D))))], [], 0⟩) (fun i => i ≤ fs.length ∧ ∀ j y, j < i → fs[j]? = some y → p y = false) (fun i => fs.length - i) 0 Wk.go ⟨Nat.zero_le _, by intro j y h; omega⟩ fun i hi => ?_
    obtain ⟨hi, hall⟩ := hi
    conv => whnf
    refine bs (fun h1 => ?_) (fun h1 => ?_)
    · conv => whnf
      have h1' : i < fs.length := by simpa using h1
      obtain ⟨f, hf⟩ := at_some h1'
      refine .mk (i) (f.D) (rfl) (at_map hf) ?_
      conv => whnf
      conv => whnf
      refine Cn.c (hF f (List.mem_of_getElem? hf)) ?_ he
      conv => whnf
      refine bs (fun h2 => ?_) (fun h2 => ?_)
      · conv => whnf
        exact ⟨_, _, ⟨by rw [if_pos (any_true hf h2), find_at hall hf h2], rfl⟩, WkV.refl _, rfl, trivial, rfl⟩
      · conv => whnf
        refine ⟨i + 1, Wk.go, ⟨h1', fun j y hj hy => ?_⟩, by omega⟩
        rcases Nat.lt_succ_iff_lt_or_eq.1 hj with h3 | h3
        · exact hall j y h3 hy
        · subst h3; rw [hf] at hy; injection hy with hy; rw [← hy]; exact h2
    · conv => whnf
      exact ⟨_, _, ⟨by rw [if_neg]; rw [any_none fun j y hy => hall j y (by have := at_lt hy; simp at h1; omega) hy]; decide, rfl⟩, WkV.refl _, rfl, trivial, rfl⟩
  refine LX_run (m := 0) (n0 := 0) mix Tryz.func86 rfl rfl rfl rfl ?_
  conv => whnf
  refine .c ix ?_
  conv => whnf
  refine bs (fun h => ?_) (fun h => ?_)
  · conv => whnf
    exact ⟨_, _, ⟨by rw [any_idx] at h; rw [h], rfl⟩, WkV.refl _, rfl, trivial, rfl⟩
  · conv => whnf
    exact ⟨_, _, ⟨by rw [any_idx] at h; rw [h], rfl⟩, WkV.refl _, rfl, trivial, rfl⟩
theorem lx_decided {s : Sp} {k u : Int} (hs : SpOk s) : LV Tryz.prog 167 [.agg s.A, vl (.int .i64 k), vl (.int .i64 u)] (vl (.bool (decB s k u))) := by
  refine LX_run (m := 0) (n0 := 0) mix Tryz.func167 rfl rfl rfl rfl ?_
  conv => whnf
  refine .l [1, 2, 0] (lx_cfD hs.pl rfl fun d hd => lx_dec1 (hs.pn d hd)) ?_
  conv => whnf
  repeat' first | (refine bs (fun h => ?_) (fun h => ?_) <;> conv => whnf) | (refine Nc.mk (by kernel_rfl) ?_; conv => whnf)
  all_goals exact .q ⟨by simp_all [decB], rfl⟩
end Go.Proofs.YtikglhmabidjoaaGreatDoor.Lf
