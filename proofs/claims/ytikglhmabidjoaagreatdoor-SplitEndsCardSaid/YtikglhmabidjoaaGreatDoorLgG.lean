/- Layer 38, lifted: opposites, the kids of a part. -/
import Derived.Test.YtikglhmabidjoaaGreatDoorLgF
namespace Go.Proofs.YtikglhmabidjoaaGreatDoor.Lf
open Go.RowKit Nt
set_option linter.unusedVariables false
set_option linter.unusedSimpArgs false
set_option maxRecDepth 100000
def opK (k : Int) : Int := if k = 1 then 2 else if k = 2 then 1 else if k = 3 then 4 else if k = 4 then 3 else k
def opD (d : Dc) : Dc := ⟨opK d.k, d.i, d.at_⟩
theorem lx_opp {d : Dc} : LV Tryz.prog 37 [.agg d.A] (.agg (opD d).A) := by
  obtain ⟨k, i, x⟩ := d
  by_cases hk : k = 1 ∨ k = 2 ∨ k = 3 ∨ k = 4
  · rcases hk with rfl | rfl | rfl | rfl
    all_goals
      refine LX_run (m := 0) (n0 := 0) mix Tryz.func37 rfl rfl rfl rfl ?_
      conv => whnf
    all_goals exact .q ⟨by simp [opD, opK], rfl⟩
  · have ho : opD ⟨k, i, x⟩ = ⟨k, i, x⟩ := by simp only [opD, opK]; simp_all
    refine LX_run (m := 0) (n0 := 0) mix Tryz.func37 rfl rfl rfl rfl ?_
    conv => whnf
    refine bs (fun h1 => ?_) (fun h1 => ?_)
    · conv => whnf
      refine bs (fun h2 => ?_) (fun h2 => ?_)
      · exfalso
        simp at h1 h2
        omega
      · conv => whnf
        exact .q ⟨by rw [ho], rfl⟩
    · conv => whnf
      exact .q ⟨by rw [ho], rfl⟩
def sp0 : Sp := ⟨⟨⟨0, [], []⟩, ⟨[], [], []⟩, ⟨[], 0⟩⟩, [], []⟩
def kidE (s : Sp) (d : Dc) : Int := if fitB s.q d = true then extE s.path d else 1
def kidA (s : Sp) (d : Dc) : Sp := if kidE s d = 0 then ⟨s.q, extP s.path d, s.ls⟩ else sp0
def kidB (s : Sp) (d : Dc) : Sp := if kidE s d = 0 then ⟨s.q, extP s.path (opD d), s.ls⟩ else sp0
theorem can0 : can 0 = ⟨false, limbs 0, limbs 0⟩ := by
  have h1 : decide ((0 : Rat) < 0) = false := by decide
  show Rw.mk _ _ _ = _
  rw [h1]; rfl
theorem sp0_A : sp0.A = [.d (.lit (.int .i64 0)), .d (.sl 4 []), .d (.sl 4 []), .d (.sl 3 []), .d (.sl 3 []), .d (.sl 4 []), .d (.sl 4 []), .d (.lit (.bool false)), .d (.nat 0), .d (.nat 0), .d (.sl 5 []), .d (.sl 6 [])] := by
  have h := can0
  injection h with h1 h2 h3
  show [_, _, _, _, _, _, _, A.d (.lit (.bool (decide ((0 : Rat) < 0)))), A.d (.lm (limbs (0 : Rat).num.natAbs)), A.d (.lm (limbs (dn 0))), _, _] = _
  rw [h1, h2, h3]; rfl
theorem opD_sm {d : Dc} (h : d.at_.sm) : (opD d).at_.sm := h
theorem lx_kids {s : Sp} {d : Dc} (hs : SpOk s) (hp : s.path.length ≤ 900000) (hd : d.at_.sm) :
    LV Tryz.prog 12 [.agg s.A, .agg d.A] (.tup [.g (kidA s d).A, .g (kidB s d).A, .s (.d (.lit (.int .i64 (kidE s d))))]) := by
  have hl := hs.ll
  refine LX_run (m := 0) (n0 := 0) mix Tryz.func12 rfl rfl rfl rfl ?_
  conv => whnf
  refine .c (lx_Fits hs.q hd) ?_
  conv => whnf
  refine bs (fun h1 => ?_) (fun h1 => ?_)
  · conv => whnf
    refine .c (lx_extend hp hs.pn hd) ?_
    conv => whnf
    refine bs (fun h2 => ?_) (fun h2 => ?_)
    · conv => whnf
      have e : kidE s d ≠ 0 := by rw [kidE, if_pos h1]; simpa using h2
      exact .q ⟨by rw [kidA, kidB, if_neg e, if_neg e, sp0_A, kidE, if_pos h1]; rfl, rfl⟩
    · conv => whnf
      have e : extE s.path d = 0 := by simpa using h2
      have e' : kidE s d = 0 := by rw [kidE, if_pos h1, e]
      refine .c (lx_opp) ?_
      conv => whnf
      refine .c (lx_extend hp hs.pn (opD_sm hd)) ?_
      conv => whnf
      refine .mk (by kernel_rfl) ?_
      conv => whnf
      refine .l [] (lx_cloneL hl) ?_
      conv => whnf
      refine .l [] (lx_cloneL hl) ?_
      conv => whnf
      refine .mk (by kernel_rfl) ?_
      conv => whnf
      exact .s ⟨by rw [kidA, kidB, if_pos e', if_pos e', e']; rfl, rfl⟩
  · conv => whnf
    have e : kidE s d = 1 := by rw [kidE, if_neg (by rw [h1]; exact Bool.false_ne_true)]
    exact .q ⟨by rw [kidA, kidB, if_neg (by rw [e]; decide), if_neg (by rw [e]; decide), sp0_A, e]; rfl, rfl⟩
end Go.Proofs.YtikglhmabidjoaaGreatDoor.Lf
