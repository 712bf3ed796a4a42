/- Texts Float2 Float3, in this order. -/
import Derived.Test.YtfffehmkohcgcaaBf
namespace Go.Proofs.Ytfffehmkohcgcaa
open Go.RowKit Nt
set_option linter.unusedVariables false
section
variable {P : Program} {ops : Array Oper} {Q : Exit → Act → World → Prop} {md : Region.Mode}
variable {W : World} {E : List Nat} {F : List Fl} {L : Array Bool} {a : Act} {w : World} {n : Nat}

/-- An operation that enters a Go function is the one beside the allocations that may come up. -/
theorem good_run (i f : Nat) {oi : Oper} {args : Array Value} (hi : ops[i]? = some oi) (hns : ∀ cs b, oi.op ≠ .select cs b)
    (ok : Flok P ops md F a.tmps.size) (ha : aloof ops F oi = true) (hn : (F.all fun f => f.i != i) = true)
    (hr : (Region.ready md ops L).contains i = true) (hl : (L[i]? == some false) = true) (hone : Region.ready md ops (allOn F L) = [i])
    (hw : Region.wanted oi (yielded ops a.tmps) = true)
    (hrun : ∀ w' : World, (execOp a.eval oi).run P w' = .ok (.enter f args) w')
    (hc : ∀ w', Below w.heap.size w w' → Calls P f args w' (Ret w' fun w2 v => Good P md ops Q W E F (L.setIfInBounds i true) (a.put oi.dst v) w2)) : Good P md ops Q W E F L a w := by
  intro hW
  have hni : ∀ f ∈ F, f.i ≠ i := fun f hf => by simpa using List.all_eq_true.1 hn f hf
  have hl0 : L[i]? = some false := by simpa using hl
  have step : ∀ L' a' w', Below w.heap.size w w' → Rel F W.heap.size L a L' a' w' →
      wpOp P ops Q i (fun a1 w1 => SE W E w1 ∧ wpAnyH P md ops Q (SE W E) (left L' - 1) (L'.setIfInBounds i true) a1 w1) a' w' := by
    intro L' a' w' hbw hrel
    have hl' : L'[i]? = some false := by rw [hrel.listed i hni]; exact hl0
    have hex := hrel.exec ha hns
    unfold Go.wpOp
    simp only [hi]
    rw [if_pos ((hrel.wanted ha).trans hw)]
    refine .inl ?_
    have key : oi.upon P a' (fun a1 w1 => SE W E w1 ∧ wpAnyH P md ops Q (SE W E) (left L' - 1) (L'.setIfInBounds i true) a1 w1) Q (.ok (.enter f args) w') := by
      rw [Oper.upon_enter]
      refine (hc w' hbw).mono ?_
      rintro e w2 ⟨v, rfl, h1, h2⟩
      have hW2 : SE W E w2 := (hW.grow hbw).grow h2
      refine ⟨hW2, ?_⟩
      have := h1 hW2 (L'.setIfInBounds i true) (a'.put oi.dst v) w2 (Below.refl _ _) ((hrel.grow h2).put ha hni v)
      rwa [show left (L'.setIfInBounds i true) = left L' - 1 by have := left_set hl'; omega] at this
    unfold Oper.wp
    have e : (execOp a'.eval oi).run P w' = .ok (.enter f args) w' := by rw [hex]; exact hrun w'
    rw [e]
    exact key
  refine float_core ok ?_ ?_ hW
  · intro L' a' w' hbw hrel hall
    have hl' : L'[i]? = some false := by rw [hrel.listed i hni]; exact hl0
    have hin : i ∈ Region.ready md ops L' := hrel.ready (by simpa using hr) hni
    have s := step L' a' w' hbw hrel
    rw [show left L' = (left L' - 1) + 1 by have := left_pos hl'; omega]
    refine ⟨fun h0 => (by rw [h0] at hin; cases hin), fun j hj => ?_⟩
    have hnj : ∀ f ∈ F, f.i ≠ j := by
      rintro f hf rfl
      have := (mem_ready.1 hj).1
      rw [getD_of (hall f hf)] at this; cases this
    have hj' := hrel.readyOn hj hnj
    rw [hone] at hj'
    rw [List.mem_singleton.1 hj']
    exact s
  · intro L' a' w' hbw hrel j hj hnj _
    have hj' := hrel.readyOn hj hnj
    rw [hone] at hj'
    rw [List.mem_singleton.1 hj']
    exact step L' a' w' hbw hrel

theorem execOp_call_tmp {a : Act} {t : Tmp} {f : FuncId} (h : a.eval (.tmp t) = .func (.func f) #[] #[]) (dst : Option Tmp) (xs : Array Operand) (ats : Array TypeId) (ty : TypeId) (pos : String) (after : Array Edge) (guard : Option (Nat × Bool)) :
    execOp a.eval { dst, op := .call { callee := .value (.tmp t), args := xs, argTypes := ats }, type := ty, pos, after, guard } = callFunc f (#[] ++ xs.map a.eval ++ #[]) := by
  simp only [execOp, resolve, h]
  rfl
theorem good_callV (i f : Nat) (d : Option Tmp) (t : Tmp) (x : Array Operand) (tys : Array TypeId) (g : Option (Nat × Bool)) (args : Array Value)
    (hi : parts ops i = some (d, Op.call { callee := Callee.value (Operand.tmp t), args := x, argTypes := tys }, g)) (ok : Flok P ops md F n) (hsz : a.tmps.size = n)
    (hc : (aloof ops F (bare d (Op.call { callee := Callee.value (Operand.tmp t), args := x, argTypes := tys }) g) && (F.all fun f => f.i != i) && (Region.ready md ops L).contains i && (L[i]? == some false)) = true)
    (hone : Region.ready md ops (allOn F L) = [i]) (hw : Region.wanted (bare d (Op.call { callee := Callee.value (Operand.tmp t), args := x, argTypes := tys }) g) (yielded ops a.tmps) = true)
    (hv : a.eval (.tmp t) = .func (.func f) #[] #[])
    {fn : Func} {c : Code} (hf : P.funcs[f]? = some fn) (hname : (fn.name == "runtime.NumGoroutine") = false) (hb : fn.body = some c)
    (hargs : x.map a.eval = args)
    (hcall : ∀ w', Below w.heap.size w w' → Calls P f args w' (Ret w' fun w2 v => Good P md ops Q W E F (L.setIfInBounds i true) (a.put d v) w2)) : Good P md ops Q W E F L a w := by
  subst hsz
  obtain ⟨o, ho, rfl, h2, rfl⟩ := parts_some hi
  simp only [Bool.and_eq_true] at hc
  obtain ⟨⟨⟨c1, c2⟩, c3⟩, c4⟩ := hc
  rw [← h2] at c1 hw
  refine good_run i f ho (fun cs b => by rw [h2]; intro h; cases h) ok (by rw [← aloof_bare]; exact c1) c2 c3 c4 hone hw (fun w' => ?_) hcall
  obtain ⟨dst, op, ty, pos, after, guard⟩ := o
  dsimp only at h2
  subst h2
  rw [execOp_call_tmp hv, hargs]
  simpa using run_enter hf hname hb args w'
end
end Go.Proofs.Ytfffehmkohcgcaa
namespace Go.Proofs.Ytfffehmkohcgcaa
open Go.RowKit Nt
set_option linter.unusedVariables false
section
variable {P : Program} {ops : Array Oper} {Q : Exit → Act → World → Prop} {md : Region.Mode}
variable {W : World} {E : List Nat} {F : List Fl} {L : Array Bool} {a : Act} {w : World} {n : Nat}

/-- An operation that makes memory is the one beside the allocations that may come up. -/
theorem good_grow (i : Nat) {oi : Oper} (hi : ops[i]? = some oi) (hns : ∀ cs b, oi.op ≠ .select cs b)
    (ok : Flok P ops md F a.tmps.size) (ha : aloof ops F oi = true) (hn : (F.all fun f => f.i != i) = true)
    (hr : (Region.ready md ops L).contains i = true) (hl : (L[i]? == some false) = true) (hone : Region.ready md ops (allOn F L) = [i])
    (hw : Region.wanted oi (yielded ops a.tmps) = true)
    (hrun : ∀ w', Below w.heap.size w w' → ∃ v w2, (execOp a.eval oi).run P w' = .ok (.value v) w2 ∧ Below w'.heap.size w' w2 ∧ Good P md ops Q W E F (L.setIfInBounds i true) (a.put oi.dst v) w2) : Good P md ops Q W E F L a w := by
  intro hW
  have hni : ∀ f ∈ F, f.i ≠ i := fun f hf => by simpa using List.all_eq_true.1 hn f hf
  have hl0 : L[i]? = some false := by simpa using hl
  have step : ∀ L' a' w', Below w.heap.size w w' → Rel F W.heap.size L a L' a' w' →
      wpOp P ops Q i (fun a1 w1 => SE W E w1 ∧ wpAnyH P md ops Q (SE W E) (left L' - 1) (L'.setIfInBounds i true) a1 w1) a' w' := by
    intro L' a' w' hbw hrel
    have hl' : L'[i]? = some false := by rw [hrel.listed i hni]; exact hl0
    have hex := hrel.exec ha hns
    obtain ⟨v, w2, e, h2, h1⟩ := hrun w' hbw
    unfold Go.wpOp
    simp only [hi]
    rw [if_pos ((hrel.wanted ha).trans hw)]
    refine .inl ?_
    have hW2 : SE W E w2 := (hW.grow hbw).grow h2
    have key := h1 hW2 (L'.setIfInBounds i true) (a'.put oi.dst v) w2 (Below.refl _ _) ((hrel.grow h2).put ha hni v)
    simp only [Oper.wp, hex, e, Oper.upon]
    refine ⟨hW2, ?_⟩
    rwa [show left (L'.setIfInBounds i true) = left L' - 1 by have := left_set hl'; omega] at key
  refine float_core ok ?_ ?_ hW
  · intro L' a' w' hbw hrel hall
    have hl' : L'[i]? = some false := by rw [hrel.listed i hni]; exact hl0
    have hin : i ∈ Region.ready md ops L' := hrel.ready (by simpa using hr) hni
    have s := step L' a' w' hbw hrel
    rw [show left L' = (left L' - 1) + 1 by have := left_pos hl'; omega]
    refine ⟨fun h0 => (by rw [h0] at hin; cases hin), fun j hj => ?_⟩
    have hnj : ∀ f ∈ F, f.i ≠ j := by
      rintro f hf rfl
      have := (mem_ready.1 hj).1
      rw [getD_of (hall f hf)] at this; cases this
    have hj' := hrel.readyOn hj hnj
    rw [hone] at hj'
    rw [List.mem_singleton.1 hj']
    exact s
  · intro L' a' w' hbw hrel j hj hnj _
    have hj' := hrel.readyOn hj hnj
    rw [hone] at hj'
    rw [List.mem_singleton.1 hj']
    exact step L' a' w' hbw hrel

theorem good_growX (i : Nat) (d : Option Tmp) (op : Op) (g : Option (Nat × Bool)) (hi : parts ops i = some (d, op, g)) (ok : Flok P ops md F n) (hsz : a.tmps.size = n)
    (hc : (plainOp op && aloof ops F (bare d op g) && (F.all fun f => f.i != i) && (Region.ready md ops L).contains i && (L[i]? == some false)) = true)
    (hone : Region.ready md ops (allOn F L) = [i]) (hw : Region.wanted (bare d op g) (yielded ops a.tmps) = true)
    (hrun : ∀ w', Below w.heap.size w w' → ∃ v w2, (execOp a.eval { dst := d, op := op, type := 0, pos := "", after := #[], guard := g }).run P w' = .ok (.value v) w2 ∧ Below w'.heap.size w' w2 ∧ Good P md ops Q W E F (L.setIfInBounds i true) (a.put d v) w2) :
    Good P md ops Q W E F L a w := by
  subst hsz
  obtain ⟨o, ho, rfl, rfl, rfl⟩ := parts_some hi
  simp only [Bool.and_eq_true] at hc
  obtain ⟨⟨⟨⟨c0, c1⟩, c2⟩, c3⟩, c4⟩ := hc
  refine good_grow i ho (fun cs b => by intro h; rw [h] at c0; cases c0) ok (by rw [← aloof_bare]; exact c1) c2 c3 c4 hone hw (fun w' hb => ?_)
  obtain ⟨v, w2, e, h2, h1⟩ := hrun w' hb
  exact ⟨v, w2, by rw [exec_bare c0]; exact e, h2, h1⟩
end
end Go.Proofs.Ytfffehmkohcgcaa
