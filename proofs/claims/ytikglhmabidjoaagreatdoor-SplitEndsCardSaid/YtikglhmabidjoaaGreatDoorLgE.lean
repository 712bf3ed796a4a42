/- Layer 38, lifted: best lemmas, phases: both sides. -/
import Derived.Test.YtikglhmabidjoaaGreatDoorLgC
namespace Go.Proofs.YtikglhmabidjoaaGreatDoor.Lf
open Go.RowKit Nt
set_option linter.unusedVariables false
set_option linter.unusedSimpArgs false
set_option maxRecDepth 100000
def atL (ls : List Lm) (z : Int) : Lm := (ls[(z - 1).toNat]?).getD ⟨0, false, ⟨false, [], []⟩, []⟩
abbrev vAt (ls : List Lm) (z : Int) : Rat := (atL ls z).v.q
theorem atL_some {ls : List Lm} {z : Int} (h : 0 < z) (h2 : z ≤ ls.length) : ls[(z - 1).toNat]? = some (atL ls z) := by
  unfold atL
  obtain ⟨x, hx⟩ := at_some (l := ls) (i := (z - 1).toNat) (by omega)
  rw [hx]; rfl
theorem atL_sm {ls : List Lm} (h : ∀ m ∈ ls, m.v.sm) (z : Int) : (atL ls z).v.sm := by
  unfold atL
  cases hx : ls[(z - 1).toNat]? with
  | none => exact ⟨Nat.zero_le _, Nat.zero_le _⟩
  | some x => exact h x (List.mem_of_getElem? hx)
def bstep (ls : List Lm) (u : Int) (i : Nat) (m : Lm) (a : Int × Int) : Int × Int :=
  if m.u = u then (if m.up = true then (if a.2 = 0 ∨ cmpQ m.v.q (vAt ls a.2) < 0 then (a.1, (i : Int) + 1) else a)
    else (if a.1 = 0 ∨ cmpQ m.v.q (vAt ls a.1) > 0 then ((i : Int) + 1, a.2) else a)) else a
def bestTo (ls : List Lm) (u : Int) : Nat → Int × Int
  | 0 => (0, 0)
  | i + 1 => match ls[i]? with
    | some m => bstep ls u i m (bestTo ls u i)
    | none => bestTo ls u i
def bestS (s : Sp) (u : Int) : Int × Int := bestTo s.ls u s.ls.length
theorem bestTo_succ {ls : List Lm} {u : Int} {i : Nat} {m : Lm} (h : ls[i]? = some m) : bestTo ls u (i + 1) = bstep ls u i m (bestTo ls u i) := by
  simp only [bestTo, h]
theorem bestTo_le (ls : List Lm) (u : Int) : ∀ i : Nat, 0 ≤ (bestTo ls u i).1 ∧ (bestTo ls u i).1 ≤ i ∧ 0 ≤ (bestTo ls u i).2 ∧ (bestTo ls u i).2 ≤ i
  | 0 => by simp [bestTo]
  | i + 1 => by
    have ih := bestTo_le ls u i
    simp only [bestTo]
    split
    · unfold bstep
      repeat' split
      all_goals first | omega | (simp only; omega)
    · omega
theorem pos_of {z : Int} (h : (z == 0) = false) (h0 : 0 ≤ z) : 0 < z := by
  have : z ≠ 0 := by simpa using h
  omega
theorem lx_best {s : Sp} {u : Int} (hs : SpOk s) : LV Tryz.prog 122 [.agg s.A, vl (.int .i64 u)] (.tup [.s (.d (.lit (.int .i64 (bestS s u).1))), .s (.d (.lit (.int .i64 (bestS s u).2)))]) := by
  have hl := hs.ll
  refine LX_run (m := 0) (n0 := 0) mix Tryz.func122 rfl rfl rfl rfl ?_
  conv => whnf
  refine .mk (Nat × Int × Int) (fun (i, lo, hi) => ⟨[(13, vl (.int .i64 i)), (12, vl (.int .i64 (s.ls.map Lm.D).length)), (11, .a (.d (lmsD s.ls))), (7, vl (.int .i64 hi)), (6, vl (.int .i64 lo)), (2, .a (.ptr 0 0)), (1, vl (.int .i64 u))], [(0, .box 43 s.A)], 1⟩)
    (fun b => b.1 ≤ s.ls.length ∧ bestTo s.ls u b.1 = b.2) (fun b => s.ls.length - b.1) (0, 0, 0) Wk.go ⟨Nat.zero_le _, rfl⟩ fun ⟨i, lo, hi⟩ hb => ?_
  obtain ⟨hi1, hb⟩ := hb
  have hle := bestTo_le s.ls u i
  rw [hb] at hle
  obtain ⟨k1, k2, k3, k4⟩ := hle
  simp only at k1 k2 k3 k4 hi1
  conv => whnf
  refine bs (fun h1 => ?_) (fun h1 => ?_)
  · conv => whnf
    have h1' : i < s.ls.length := by simpa using h1
    obtain ⟨m, hm⟩ := at_some h1'
    have hsm := hs.ln m (List.mem_of_getElem? hm)
    obtain ⟨mu, up, mv, mp⟩ := m
    cases up
    all_goals refine .mk i (Lm.D ⟨_, _, _, _⟩) (by first | rfl | (rw [wr64 (by omega) (by omega)]; omega)) (at_map hm) ?_
    all_goals conv => whnf
    all_goals (repeat' first | (refine bs (fun h => ?_) (fun h => ?_) <;> conv => whnf) | (refine Nc.mk (by kernel_rfl) ?_; conv => whnf) | (refine .c (lx_rcmp hsm.rq (atL_sm hs.ln _).rq) ?_; conv => whnf) | (refine .mk (hi - 1).toNat (atL s.ls hi).D (by rw [wr64 (by omega) (by omega)]; have := pos_of ‹(hi == 0) = false› k3; omega) (at_map (atL_some (pos_of ‹(hi == 0) = false› k3) (by omega))) ?_; conv => whnf) | (refine .mk (lo - 1).toNat (atL s.ls lo).D (by rw [wr64 (by omega) (by omega)]; have := pos_of ‹(lo == 0) = false› k1; omega) (at_map (atL_some (pos_of ‹(lo == 0) = false› k1) (by omega))) ?_; conv => whnf))
    all_goals refine ⟨(i + 1, _, _), Wk.go, ⟨h1', ?_⟩, by simp only; omega⟩
    all_goals (have hw := wr64 (x := (i : Int) + 1) (by omega) (by omega); rw [bestTo_succ hm, hb]; first | (simp_all [bstep, vAt]; done) | (simp_all [bstep, vAt]; intros; omega))
  · conv => whnf
    have e : i = s.ls.length := by simp at h1; omega
    subst e
    exact .q ⟨by rw [bestS, hb], rfl⟩
def onS (s : Sp) (u lo : Int) : Bool := decB s 1 u || decide (lo > 0) && decide ((vAt s.ls lo).num.sign ≥ 0)
def offS (s : Sp) (u hi : Int) : Bool := decB s 2 u || decide (hi > 0) && decide ((vAt s.ls hi).num.sign ≤ 0)
def phaseS (s : Sp) (u : Int) : Int :=
  if decide (u < 0) || decide (u ≥ (s.q.g.us.length : Int)) then 0 else if onS s u (bestS s u).1 then 1 else if offS s u (bestS s u).2 then 2 else 0
theorem lx_phases {s : Sp} {u lo hi : Int} (hs : SpOk s) (h1 : lo ≤ s.ls.length) (h2 : hi ≤ s.ls.length) :
    LV Tryz.prog 123 [.agg s.A, vl (.int .i64 u), vl (.int .i64 lo), vl (.int .i64 hi)] (.tup [.s (.d (.lit (.bool (onS s u lo)))), .s (.d (.lit (.bool (offS s u hi))))]) := by
  have hl := hs.ll
  refine LX_run (m := 0) (n0 := 0) mix Tryz.func123 rfl rfl rfl rfl ?_
  conv => whnf
  repeat' first | (refine bs (fun h => ?_) (fun h => ?_) <;> conv => whnf) | (refine Nc.mk (by kernel_rfl) ?_; conv => whnf) | (refine .c (lx_decided hs) ?_; conv => whnf) | (refine .c (lx_rsign (atL_sm hs.ln _).rq) ?_; conv => whnf) | (refine .mk (hi - 1).toNat (atL s.ls hi).D (by have := of_decide_eq_true ‹decide (hi > 0) = true›; rw [wr64 (by omega) (by omega)]; omega) (at_map (atL_some (of_decide_eq_true ‹decide (hi > 0) = true›) (by omega))) ?_; conv => whnf) | (refine .mk (lo - 1).toNat (atL s.ls lo).D (by have := of_decide_eq_true ‹decide (lo > 0) = true›; rw [wr64 (by omega) (by omega)]; omega) (at_map (atL_some (of_decide_eq_true ‹decide (lo > 0) = true›) (by omega))) ?_; conv => whnf)
  all_goals exact .q ⟨by first | (simp_all [onS, offS]; done) | (simp_all [onS, offS]; intros; omega) | ((simp [onS, offS]; repeat' split) <;> first | (simp_all; done) | (simp_all; intros; omega)), rfl⟩
theorem bestS_le (s : Sp) (u : Int) : (bestS s u).1 ≤ s.ls.length ∧ (bestS s u).2 ≤ s.ls.length := let h := bestTo_le s.ls u s.ls.length; ⟨h.2.1, h.2.2.2⟩
theorem lx_phase {s : Sp} {u : Int} (hs : SpOk s) : LV Tryz.prog 67 [.agg s.A, vl (.int .i64 u)] (vl (.int .i64 (phaseS s u))) := by
  have hl := hs.ll
  refine LX_run (m := 0) (n0 := 0) mix Tryz.func67 rfl rfl rfl rfl ?_
  conv => whnf
  refine .c (lx_quvalid hs.q) ?_
  conv => whnf
  repeat' first | (refine bs (fun h => ?_) (fun h => ?_) <;> conv => whnf) | (refine Nc.mk (by kernel_rfl) ?_; conv => whnf) | (refine .c (lx_best hs) ?_; conv => whnf) | (refine .c (lx_phases hs (bestS_le s u).1 (bestS_le s u).2) ?_; conv => whnf)
  all_goals exact .q ⟨by first | (simp_all [phaseS]; done) | (simp_all [phaseS]; intros; omega) | ((simp [phaseS]; repeat' split) <;> first | (simp_all; done) | (simp_all; intros; omega)), rfl⟩
end Go.Proofs.YtikglhmabidjoaaGreatDoor.Lf
