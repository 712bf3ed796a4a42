/- Layer 38, lifted: the law SplitEnds. -/
import Derived.Test.YtikglhmabidjoaaGreatDoorLgQ
namespace Go.Proofs.YtikglhmabidjoaaGreatDoor.Lf
open Go.RowKit Nt
set_option linter.unusedVariables false
set_option linter.unusedSimpArgs false
set_option maxRecDepth 100000
theorem lx_ends {raw way : List Nat} {ρ : Nat} (hr : RawOk raw) (hw : RawOk way) (hρ : ρ < 256) : LV Tryz.prog 6 [.a (.d (bysD raw)), .a (.d (bysD way)), vl (.int .u8 (ρ : Nat))] (vl (.bool true)) := by
  obtain ⟨q, hq, ci⟩ := lx_instance hr
  have hl := hr.len; have hwl := hw.len
  refine LX_run (m := 0) (n0 := 0) mix Tryz.func6 rfl rfl rfl rfl ?_
  conv => whnf
  refine .c (lx_awake) ?_
  conv => whnf
  refine bs (fun h1 => ?_) (fun h1 => ?_)
  · conv => whnf
    exact .q ⟨rfl, rfl⟩
  · conv => whnf
    refine bs (fun h2 => ?_) (fun h2 => ?_)
    · conv => whnf
      exact .q ⟨rfl, rfl⟩
    · conv => whnf
      refine .c (ci) ?_
      conv => whnf
      have hu1 := hq.g.u1
      have hst : IntKind.i64.wrap (((q.g.us.map Af.D).length : Int) + 4) = ((q.g.us.length + 4 : Nat) : Int) := by rw [wr64 (by simp; omega) (by simp; omega)]; simp
      refine .mk (List Dc) (fun P => ⟨[(9, vl (.int .i64 (P.length : Nat))), (8, vl (.int .i64 ((q.g.us.length + 4 : Nat) : Int))), (7, .a (.ptr 0 0)), (2, vl (.int .u8 (ρ : Nat))), (1, .a (.d (bysD way)))], [(0, .box 43 (Sp.A ⟨q, P, []⟩))], 1⟩) (PathI q) (fun P => q.g.us.length + 5 - P.length) [] ?_ (PathI.nil q) fun P hP => ?_
      · rw [hst]; exact Wk.go
      have hs := hP.sp hq
      have hple := hP.le
      have hr4 : IntKind.i64.wrap ((ρ : Int).tmod 4) = ((ρ % 4 : Nat) : Int) := by
        have e : (ρ : Int).tmod 4 = ((ρ % 4 : Nat) : Int) := rfl
        rw [e, wr64 (by omega) (by omega)]
      have hce : csE ⟨q, P, []⟩ ((ρ % 4 : Nat) : Int) = 0 ∨ csE ⟨q, P, []⟩ ((ρ % 4 : Nat) : Int) = 10 := by
        rw [csE, if_neg (by omega)]
        split <;> simp
      have hstp := hP.step (r := ((ρ % 4 : Nat) : Int)) hq
      conv => whnf
      rw [hr4]
      refine .c (lx_chooseN hs) ?_
      conv => whnf
      generalize ((ρ % 4 : Nat) : Int) = r at *
      rcases hce with hce | hce
      · obtain ⟨s1, s2, s3, s4, s5, s6, s7⟩ := hstp hce
        generalize csD ⟨q, P, []⟩ (onD (gMost (gapS ⟨q, P, []⟩) (openS ⟨q, P, []⟩))) r = d at *
        refine bF (by rw [hce]; rfl) ?_
        conv => whnf
        refine .c (lx_kids hs (by simp only; omega) s1) ?_
        conv => whnf
        rw [s4, s5, s3]
        have hw1 : ∀ x : Dc, IntKind.i64.wrap ((P.length : Int) + 1) = ((P ++ [x]).length : Nat) := fun x => by rw [wr64 (by omega) (by omega)]; simp
        have hm : ∀ x : Dc, q.g.us.length + 5 - (P ++ [x]).length < q.g.us.length + 5 - P.length := fun x => by simp; omega
        refine bF (by simp; omega) ?_
        conv => whnf
        refine bs (fun h4 => ?_) (fun h4 => ?_)
        · conv => whnf
          have h4' : P.length < way.length := by simpa using h4
          obtain ⟨b, hb⟩ := at_some h4'
          refine .mk (P.length) ([.lit (.int .u8 (b : Nat))]) (rfl) (at_map hb) ?_
          conv => whnf
          conv => whnf
          refine bs (fun h5 => ?_) (fun h5 => ?_)
          · conv => whnf
            rw [hw1 (opD d)]
            exact ⟨P ++ [opD d], Wk.go, s7, hm _⟩
          · conv => whnf
            rw [hw1 d]
            exact ⟨P ++ [d], Wk.go, s6, hm _⟩
        · conv => whnf
          rw [hw1 d]
          exact ⟨P ++ [d], Wk.go, s6, hm _⟩
      · refine bT (by rw [hce]; rfl) ?_
        conv => whnf
        refine bT (by rw [hce]; rfl) ?_
        conv => whnf
        refine bT (by simp; omega) ?_
        conv => whnf
        exact .q ⟨rfl, rfl⟩
end Go.Proofs.YtikglhmabidjoaaGreatDoor.Lf
