/- Layer 38, lifted: valid data: the references; decisions that fit. -/
import Derived.Test.YtikglhmabidjoaaGreatDoorLgA
namespace Go.Proofs.YtikglhmabidjoaaGreatDoor.Lf
open Go.RowKit Nt
set_option linter.unusedVariables false
set_option linter.unusedSimpArgs false
set_option maxRecDepth 100000
def Rw.z0 (x : Rw) : Bool := !x.b && ((x.n.length : Int) == 0) && ((x.d.length : Int) == 0)
def fitB (q : Qu) (d : Dc) : Bool :=
  if d.k = 1 ∨ d.k = 2 then decide (d.i ≥ 0) && decide (d.i < (q.g.us.length : Int)) && d.at_.z0
  else if d.k = 3 ∨ d.k = 4 then decide (d.i ≥ 0) && decide (d.i < (q.g.n : Int)) && d.at_.ok else false
theorem lx_nsame {xs ys : List Nat} : LV Tryz.prog 57 [.a (.d (.lm xs)), .a (.d (.lm ys))] (vl (.bool (same xs ys))) := lv_of fun γ M w rs ha => by
  obtain ⟨r, s, rfl, k, k2⟩ := all2_2 ha
  exact Calls.ret (same_any _ _ _ _ _ (rd_sl k) (rd_sl k2)) fun _ _ => Val.ov
def Rw.eq (x y : Rw) : Bool := (x.b == y.b) && same x.n y.n && same x.d y.d
theorem Rw.eq_iff {x y : Rw} : x.eq y = true ↔ x = y := by
  cases x; cases y; simp [Rw.eq, same, and_assoc]
theorem lx_zsame2 {x y : Rw} : LV Tryz.prog 24 [.agg x.A, .agg y.A] (vl (.bool (x.eq y))) := by
  obtain ⟨b, n, d⟩ := x
  obtain ⟨b', n', d'⟩ := y
  cases b <;> cases b'
  all_goals
    refine LX_run (m := 0) (n0 := 0) mix Tryz.func24 rfl rfl rfl rfl ?_
    conv => whnf
  all_goals (repeat' first | (refine bs (fun h => ?_) (fun h => ?_) <;> conv => whnf) | (refine Nc.mk (by kernel_rfl) ?_; conv => whnf) | (refine .c (lx_nsame) ?_; conv => whnf))
  all_goals exact .q ⟨by first | (simp_all [Rw.eq]; done) | (simp_all [Rw.eq]; intros; omega) | ((simp [Rw.eq]; repeat' split) <;> first | (simp_all; done) | (simp_all; intros; omega)), rfl⟩
end Go.Proofs.YtikglhmabidjoaaGreatDoor.Lf
