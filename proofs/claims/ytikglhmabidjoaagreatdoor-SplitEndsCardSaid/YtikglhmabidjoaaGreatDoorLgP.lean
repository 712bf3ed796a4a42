/- Layer 38, lifted: the examples hold. -/
import Derived.Test.YtikglhmabidjoaaGreatDoorLgO
namespace Go.Proofs.YtikglhmabidjoaaGreatDoor.Lf
open Go.RowKit Nt
set_option linter.unusedVariables false
set_option linter.unusedSimpArgs false
set_option maxRecDepth 100000
abbrev iq (z : Int) : Rat := (z : Rat)
abbrev awU : Af := varS 0
def awQ : Qu := ⟨⟨1, [awU, awU], [awU]⟩, ⟨[0], [iq 3], []⟩, ⟨[], 0⟩⟩
def awL : List Lm := [⟨0, false, can (iq (-1)), []⟩, ⟨0, true, can (iq 1), []⟩, ⟨1, false, can (iq (-2)), []⟩, ⟨1, true, can (iq 2), []⟩]
def awS : Sp := ⟨awQ, [], awL⟩
theorem awBest0 : bestS awS 0 = (1, 2) := by
  simp [bestS, awS, awL, bestTo, bstep]
theorem awBest1 : bestS awS 1 = (3, 4) := by
  simp [bestS, awS, awL, bestTo, bstep]
theorem awOpen : openS awS = [0, 1] := by
  have h0 : phaseS awS 0 = 0 := by
    rw [phaseS, awBest0]
    simp [onS, offS, decB, awS, awL, vAt, atL, can_q, awQ]
  have h1 : phaseS awS 1 = 0 := by
    rw [phaseS, awBest1]
    simp [onS, offS, decB, awS, awL, vAt, atL, can_q, awQ]
  have e : awS.q.g.us.length = 2 := rfl
  simp [openS, openTo, e, List.range_succ, openB, h0, h1]
theorem awGap0 : gapS awS 0 = 1 / 2 := by
  rw [gapS, awBest0]
  simp [awS, awL, vAt, atL, can_q]
  decide +kernel
theorem awGap1 : gapS awS 1 = 1 := by
  rw [gapS, awBest1]
  simp [awS, awL, vAt, atL, can_q]
  decide +kernel
theorem awMost : gMost (gapS awS) (openS awS) = 1 := by
  rw [awOpen, gMost]
  simp only [List.foldl, gStep]
  rw [show ((0 : Nat) : Int) = 0 from rfl, show ((1 : Nat) : Int) = 1 from rfl, awGap0, awGap1]
  decide +kernel
theorem awIvs : bxS awS = [⟨0, 3⟩] := by
  simp [bxS, awS, awQ, ivs0, iq]
theorem awBis : bisS awS = ⟨3, 0, can (iq 3 / iq 2)⟩ := by
  have e : bxE awS = 0 := by rw [bxE, awIvs]; decide +kernel
  have e2 : bxR awS = [⟨0, 3⟩] := by rw [bxR, awIvs, if_neg (by decide +kernel)]
  rw [bisS, e, e2]
  have e3 : wTo [⟨0, 3⟩] [(⟨0, 3⟩ : Iv)].length = 0 := by decide +kernel
  rw [e3]
  simp [cntI, awS, wd, ivAt, iq]
  rw [if_neg (by decide +kernel), show (0 : Rat) + 3 = 3 by decide +kernel]
theorem awUB (n : Int) (h : 1 ≤ n) : FB 5 n awU := (FB.var (n := n) (v := 0) (Int.le_refl 0) (by omega)).up (by decide) (Int.le_refl n)
theorem biq {z : Int} (h : z.natAbs ≤ 2 ^ 5) : Bt 11 (iq z) := (Bt.int h).mono (by decide)
theorem awB : QuB awQ :=
  ⟨⟨by decide, by decide, by decide, by decide, by decide, fun j f h => by
      have hf : f = awU := by
        have := List.mem_of_getElem? h
        simp [awQ] at this; exact this
      rw [hf]; exact awUB _ (by simp [awQ]; omega), fun f h => by
      have hf : f = awU := by simpa [awQ] using h
      rw [hf]; exact awUB _ (by simp [awQ])⟩,
   ⟨rfl, rfl, by decide, fun q h => by rw [show q = 0 by simpa [awQ] using h]; exact bt0 _, fun q h => by rw [show q = iq 3 by simpa [awQ] using h]; exact biq (by decide), fun i a b h1 h2 => by
      cases i with
      | zero => simp [awQ] at h1 h2; subst h1 h2; decide +kernel
      | succ i => simp [awQ] at h1, fun f h => by simp [awQ] at h⟩, FB.num (bt0 _)⟩
theorem awOk : SpOk awS := by
  refine ⟨awB.ok, by decide, fun d h => (by cases h), by decide, fun m h => ?_, fun q h => ((awB.r.sl q h).mono (by decide)), fun q h => ((awB.r.sh q h).mono (by decide)), fun d h => (by cases h), fun m h => ?_⟩
  · simp [awS, awL] at h
    rcases h with rfl | rfl | rfl | rfl <;> exact Sz.sm ((biq (by decide)).mono (by decide))
  · simp [awS, awL] at h
    rcases h with rfl | rfl | rfl | rfl <;> (simp only [can_q]; exact (biq (by decide)).mono (by decide))
theorem awE (r : Int) (h : 0 ≤ r ∧ r ≤ 3) : csE awS r = 0 := by rw [csE, if_neg (by omega), awOpen]; rfl
theorem awC0 : csD awS (onD (gMost (gapS awS) (openS awS))) 0 = onD 0 := by
  rw [csD, if_neg (by rw [awE 0 (by decide)]; decide), if_pos rfl, firS, awOpen]; rfl
theorem awC1 : csD awS (onD (gMost (gapS awS) (openS awS))) 1 = onD 1 := by
  rw [csD, if_neg (by rw [awE 1 (by decide)]; decide), if_neg (by decide), if_pos rfl, awMost]; rfl
theorem awC2 : csD awS (onD (gMost (gapS awS) (openS awS))) 2 = ⟨3, 0, can (iq 3 / iq 2)⟩ := by
  rw [csD, if_neg (by rw [awE 2 (by decide)]; decide), if_neg (by decide), if_neg (by decide), if_pos rfl, awBis]
theorem lx_chooseN {s : Sp} {r : Int} (hs : SpOk s) : LV Tryz.prog 10 [.agg s.A, vl (.slice none 0 0), vl (.int .i64 r)] (.tup [.g (csD s (onD (gMost (gapS s) (openS s))) r).A, .s (.d (.lit (.int .i64 (csE s r))))]) :=
  (lx_choose0 hs).wk ⟨WkV.refl _, WkV.of WkA.nil, WkV.refl _, trivial⟩
theorem aw_ch (r : Int) (h : 0 ≤ r ∧ r ≤ 3) : LV Tryz.prog 10 [.agg awS.A, vl (.slice none 0 0), vl (.int .i64 r)] (.tup [.g (csD awS (onD (gMost (gapS awS) (openS awS))) r).A, .s (.d (.lit (.int .i64 0)))]) := by
  have := lx_chooseN (r := r) awOk
  rwa [awE r h] at this
theorem aw0 : LV Tryz.prog 10 [.agg awS.A, vl (.slice none 0 0), vl (.int .i64 0)] (.tup [.g (Dc.A (onD 0)), .s (.d (.lit (.int .i64 0)))]) := by
  have := aw_ch 0 (by decide)
  rwa [awC0] at this
theorem aw1 : LV Tryz.prog 10 [.agg awS.A, vl (.slice none 0 0), vl (.int .i64 1)] (.tup [.g (Dc.A (onD 1)), .s (.d (.lit (.int .i64 0)))]) := by
  have := aw_ch 1 (by decide)
  rwa [awC1] at this
theorem aw2 : LV Tryz.prog 10 [.agg awS.A, vl (.slice none 0 0), vl (.int .i64 2)] (.tup [.g (Dc.A (⟨3, 0, can (iq 3 / iq 2)⟩)), .s (.d (.lit (.int .i64 0)))]) := by
  have := aw_ch 2 (by decide)
  rwa [awC2] at this
theorem lx_zsameR {x : Rw} : LV Tryz.prog 24 [.agg x.A, .agg x.A] (vl (.bool true)) := by
  have := lx_zsame2 (x := x) (y := x)
  rwa [Rw.eq_iff.2 rfl] at this
theorem lx_awake : LV Tryz.prog 7 [] (vl (.bool true)) := by
  refine LX_run (m := 0) (n0 := 0) mix Tryz.func7 rfl rfl rfl rfl ?_
  conv => whnf
  refine .c (lx_zof (z := 1) (by decide) (by decide)) ?_
  conv => whnf
  refine .c (lx_zof (z := 2) (by decide) (by decide)) ?_
  conv => whnf
  refine .c (lx_zof (z := 3) (by decide) (by decide)) ?_
  conv => whnf
  refine .c (lx_zof (z := -1) (by decide) (by decide)) ?_
  conv => whnf
  refine .c (lx_zof (z := -2) (by decide) (by decide)) ?_
  conv => whnf
  refine .mk (by kernel_rfl) ?_
  conv => whnf
  refine .c (aw0) ?_
  conv => whnf
  refine .c (aw1) ?_
  conv => whnf
  refine .c (aw2) ?_
  conv => whnf
  refine .c (lx_zfrac (y := 3) (z := 2) (by decide) (by decide) (by decide) (by decide) (by decide)) ?_
  conv => whnf
  refine .c (lx_zsameR (x := can (iq 3 / iq 2))) ?_
  conv => whnf
  exact .q ⟨rfl, rfl⟩
end Go.Proofs.YtikglhmabidjoaaGreatDoor.Lf
