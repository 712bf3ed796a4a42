/- Texts Float4, in this order. -/
import Derived.Test.YtfffehmkohcgcaaDf
namespace Go.Proofs.Ytfffehmkohcgcaa
open Go.RowKit
section
variable {P : Program} {md : Region.Mode} {ops : Array Oper} {Q : Exit → Act → World → Prop} {W : World} {E : List Nat} {F : List Fl} {L : Array Bool} {a : Act} {w : World}

theorem parts_exec {o : Oper} {f : Nat} {x : Array Operand} {tys : Array TypeId} (h : o.op = Op.call { callee := Callee.value (Operand.func f), args := x, argTypes := tys }) (a : Act) : execOp a.eval o = callFunc f (x.map a.eval) := by
  obtain ⟨dst, op, ty, pos, after, guard⟩ := o
  dsimp only at h
  subst h
  rw [execOp_call_go]
  simp
theorem good_extX (i f : Nat) (d : Option Tmp) (x : Array Operand) (tys : Array TypeId) (g : Option (Nat × Bool)) (args : Array Value) (v : Value)
    (hi : parts ops i = some (d, Op.call { callee := Callee.value (Operand.func f), args := x, argTypes := tys }, g))
    (hc : (Region.noSelect ops && aloof ops F (bare d (Op.call { callee := Callee.value (Operand.func f), args := x, argTypes := tys }) g) && (F.all fun f => f.i != i) && Region.free md ops L i && (Region.ready md ops L).contains i && (L[i]? == some false)) = true)
    (hw : Region.wanted (bare d (Op.call { callee := Callee.value (Operand.func f), args := x, argTypes := tys }) g) (yielded ops a.tmps) = true) (hQ : ∀ c a w, Q (.panic c) (a.put d v) w → Q (.panic c) a w)
    (hargs : x.map a.eval = args) (hy : ∀ w' : World, (callFunc f args).run P w' = .ok (.value v) w')
    (h : Good P md ops Q W E F (L.setIfInBounds i true) (a.put d v) w) : Good P md ops Q W E F L a w := by
  obtain ⟨o, ho, rfl, h2, rfl⟩ := parts_some hi
  simp only [Bool.and_eq_true] at hc
  obtain ⟨⟨⟨⟨⟨c1, c3⟩, c4⟩, c5⟩, c6⟩, c7⟩ := hc
  rw [← h2] at c3 hw
  exact good_pure i ho c1 (by rw [← aloof_bare]; exact c3) c4 c5 c6 c7 hQ (.inl ⟨hw, fun w' _ => by rw [parts_exec h2, hargs]; exact hy w'⟩) h
theorem held_extX {S : World → Prop} {m : Nat} (i f : Nat) (d : Option Tmp) (x : Array Operand) (tys : Array TypeId) (g : Option (Nat × Bool)) (args : Array Value) (v : Value)
    (hi : parts ops i = some (d, Op.call { callee := Callee.value (Operand.func f), args := x, argTypes := tys }, g))
    (hc : (Region.noSelect ops && Region.free md ops L i && (Region.ready md ops L).contains i) = true)
    (hw : Region.wanted (bare d (Op.call { callee := Callee.value (Operand.func f), args := x, argTypes := tys }) g) (yielded ops a.tmps) = true) (hQ : ∀ c a w, Q (.panic c) (a.put d v) w → Q (.panic c) a w)
    (hargs : x.map a.eval = args) (hy : ∀ w' : World, (callFunc f args).run P w' = .ok (.value v) w') (hS : S w)
    (h : wpAnyH P md ops Q S m (L.setIfInBounds i true) (a.put d v) w) : wpAnyH P md ops Q S (m + 1) L a w := by
  obtain ⟨o, ho, rfl, h2, rfl⟩ := parts_some hi
  simp only [Bool.and_eq_true] at hc
  obtain ⟨⟨c1, c3⟩, c4⟩ := hc
  rw [← h2] at hw
  exact wpAnyH_take ho c1 c3 c4 hQ (.inl ⟨hw, fun w' _ => by rw [parts_exec h2, hargs]; exact hy w'⟩) hS h
/-- One operation alone may come up: it yields a value here. -/
theorem held_oneV {S : World → Prop} {m : Nat} (i : Nat) (d : Option Tmp) (op : Op) (g : Option (Nat × Bool)) (v : Value) (hi : parts ops i = some (d, op, g))
    (hp : plainOp op = true) (hone : Region.ready md ops L = [i]) (hw : Region.wanted (bare d op g) (yielded ops a.tmps) = true)
    (hrun : (execOp a.eval { dst := d, op := op, type := 0, pos := "", after := #[], guard := g }).run P w = .ok (.value v) w) (hS : S w) (h : wpAnyH P md ops Q S m (L.setIfInBounds i true) (a.put d v) w) : wpAnyH P md ops Q S (m + 1) L a w := by
  obtain ⟨o, ho, rfl, rfl, rfl⟩ := parts_some hi
  refine ⟨fun h0 => (by rw [hone] at h0; cases h0), fun j hj => ?_⟩
  rw [hone] at hj
  rw [List.mem_singleton.1 hj]
  unfold Go.wpOp
  simp only [ho]
  rw [if_pos (by rw [← wanted_bare]; exact hw)]
  refine .inl ?_
  have hrun : (execOp a.eval (bare o.dst o.op o.guard)).run P w = .ok (.value v) w := hrun
  rw [← exec_bare hp] at hrun
  simp only [Oper.wp, hrun, Oper.upon]
  exact ⟨hS, h⟩
/-- One operation alone may come up: a call of a Go function, that may write. -/
theorem held_callX {S : World → Prop} {m : Nat} (i f : Nat) (d : Option Tmp) (x : Array Operand) (tys : Array TypeId) (g : Option (Nat × Bool)) (args : Array Value)
    (hi : parts ops i = some (d, Op.call { callee := Callee.value (Operand.func f), args := x, argTypes := tys }, g)) (hone : Region.ready md ops L = [i])
    (hw : Region.wanted (bare d (Op.call { callee := Callee.value (Operand.func f), args := x, argTypes := tys }) g) (yielded ops a.tmps) = true)
    {fn : Func} {c : Code} (hf : P.funcs[f]? = some fn) (hname : (fn.name == "runtime.NumGoroutine") = false) (hb : fn.body = some c) (hargs : x.map a.eval = args)
    (hcall : Calls P f args w fun e w2 => ∃ v, e = .returned v ∧ S w2 ∧ wpAnyH P md ops Q S m (L.setIfInBounds i true) (a.put d v) w2) : wpAnyH P md ops Q S (m + 1) L a w := by
  obtain ⟨o, ho, rfl, h2, rfl⟩ := parts_some hi
  refine ⟨fun h0 => (by rw [hone] at h0; cases h0), fun j hj => ?_⟩
  rw [hone] at hj
  rw [List.mem_singleton.1 hj]
  unfold Go.wpOp
  simp only [ho]
  rw [← h2] at hw
  rw [if_pos (by rw [← wanted_bare]; exact hw)]
  refine .inl ?_
  have e : (execOp a.eval o).run P w = .ok (.enter f args) w := by
    rw [parts_exec h2, hargs]
    simpa using run_enter hf hname hb args w
  have key : o.upon P a (fun a1 w1 => S w1 ∧ wpAnyH P md ops Q S m (L.setIfInBounds i true) a1 w1) Q (.ok (.enter f args) w) := by
    rw [Oper.upon_enter]
    refine hcall.mono ?_
    rintro e w2 ⟨v, rfl, h1, h2⟩
    exact ⟨h1, h2⟩
  simp only [Oper.wp, e]
  exact key
end
/-- Only the block g has turned. -/
def Wr (g : Nat) (w w' : World) : Prop :=
  (∀ w0 : World, Below w0.heap.size w0 w → w0.heap.size ≤ g → Below w0.heap.size w0 w') ∧ (∀ k, k < w.heap.size → k ≠ g → w'.heap[k]? = w.heap[k]?) ∧ w.heap.size ≤ w'.heap.size
theorem Wr.se {g : Nat} {w w' : World} (h : Wr g w w') : SE w [g] w' := ⟨h.2.2, fun k hk hn => h.2.1 k hk fun e => hn (e ▸ List.mem_cons_self)⟩
theorem Wr.box {g h : Nat} {w w' : World} (k : Wr g w w') {t : TypeId} {cs : Array Value} (X : Box w h t cs) (hn : h ≠ g) : Box w' h t cs := (k.2.1 h X.lt hn).trans X
theorem Wr.below {g : Nat} {w0 w w' : World} (k : Wr g w w') (h : Below w0.heap.size w0 w) (hg : w0.heap.size ≤ g) : Below w0.heap.size w0 w' := k.1 w0 h hg
theorem SE.cellOf {W x : World} {E : List Nat} (h : SE W E x) {b i : Nat} {v : Value} (hb : b < W.heap.size) (hn : b ∉ E) (hc : W.cell? ⟨b, i, none⟩ = some v) : x.cell? ⟨b, i, none⟩ = some v := by
  rw [← hc]
  unfold World.cell?
  rw [show x.heap[b]? = W.heap[b]? from h.2 b hb hn]
theorem stu3_0 {W W' : World} {g : Nat} {t : TypeId} {x y z x' : Value} (hW : W' = W.setCell ⟨g, 0, none⟩ x') (X : Box W g t #[x, y, z]) :
    Box W' g t #[x', y, z] ∧ True ∧ (∀ g' t' cs, Box W g' t' cs → g' ≠ g → Box W' g' t' cs) ∧ (∀ w0 : World, Below w0.heap.size w0 W → w0.heap.size ≤ g → Below w0.heap.size w0 W') ∧ W'.heap.size = W.heap.size := by
  subst hW; exact ⟨X.set (i := 0), trivial, fun _ _ _ h hne => h.other hne, fun _ h hg => h.setCell hg _, by simp⟩
theorem stu3_1 {W W' : World} {g : Nat} {t : TypeId} {x y z x' : Value} (hW : W' = W.setCell ⟨g, 1, none⟩ x') (X : Box W g t #[x, y, z]) :
    Box W' g t #[x, x', z] ∧ True ∧ (∀ g' t' cs, Box W g' t' cs → g' ≠ g → Box W' g' t' cs) ∧ (∀ w0 : World, Below w0.heap.size w0 W → w0.heap.size ≤ g → Below w0.heap.size w0 W') ∧ W'.heap.size = W.heap.size := by
  subst hW; exact ⟨X.set (i := 1), trivial, fun _ _ _ h hne => h.other hne, fun _ h hg => h.setCell hg _, by simp⟩
theorem stu3_2 {W W' : World} {g : Nat} {t : TypeId} {x y z x' : Value} (hW : W' = W.setCell ⟨g, 2, none⟩ x') (X : Box W g t #[x, y, z]) :
    Box W' g t #[x, y, x'] ∧ True ∧ (∀ g' t' cs, Box W g' t' cs → g' ≠ g → Box W' g' t' cs) ∧ (∀ w0 : World, Below w0.heap.size w0 W → w0.heap.size ≤ g → Below w0.heap.size w0 W') ∧ W'.heap.size = W.heap.size := by
  subst hW; exact ⟨X.set (i := 2), trivial, fun _ _ _ h hne => h.other hne, fun _ h hg => h.setCell hg _, by simp⟩
theorem stu3 {W W' : World} {g : Nat} {t : TypeId} {x y z x' y' z' : Value} (hW : W' = ((W.setCell ⟨g, 0, none⟩ x').setCell ⟨g, 1, none⟩ y').setCell ⟨g, 2, none⟩ z') (X : Box W g t #[x, y, z]) :
    Box W' g t #[x', y', z'] ∧ True ∧ (∀ g' t' cs, Box W g' t' cs → g' ≠ g → Box W' g' t' cs) ∧ (∀ w0 : World, Below w0.heap.size w0 W → w0.heap.size ≤ g → Below w0.heap.size w0 W') ∧ W'.heap.size = W.heap.size := by
  subst hW; exact ⟨X.set3, trivial, fun _ _ _ h hne => h.far3 hne, fun _ h hg => below_set3 h hg, by simp⟩
theorem Wr.refl (g : Nat) (w : World) : Wr g w w := ⟨fun _ h _ => h, fun _ _ _ => rfl, Nat.le_refl _⟩
theorem Wr.trans {g : Nat} {a b c : World} (h : Wr g a b) (k : Wr g b c) : Wr g a c :=
  ⟨fun w0 h0 hg => k.1 w0 (h.1 w0 h0 hg) hg, fun i hi hn => (k.2.1 i (Nat.lt_of_lt_of_le hi h.2.2) hn).trans (h.2.1 i hi hn), Nat.le_trans h.2.2 k.2.2⟩
theorem Wr.call {g : Nat} {a b c : World} (h : Wr g a b) (k : Below b.heap.size b c) : Wr g a c :=
  h.trans ⟨fun _ h0 _ => below_call h0 k, fun i hi _ => k.block i hi, k.size⟩
theorem Wr.drew {g : Nat} {a b : World} (h : Wr g a b) : Wr g a b.drew := h.call ((Below.refl _ _).drew)
theorem Wr.cell {g i : Nat} {v : Value} (w : World) : Wr g w (w.setCell ⟨g, i, none⟩ v) :=
  ⟨fun _ h hg => h.setCell hg _, fun k _ hn => Below.heap_setCell w _ _ k hn, by simp⟩
theorem SE.wr {g : Nat} {W w w' : World} (h : SE W [g] w) (k : Wr g w w') : SE W [g] w' :=
  ⟨Nat.le_trans h.1 k.2.2, fun i hi hn => (k.2.1 i (Nat.lt_of_lt_of_le hi h.1) (fun e => hn (e ▸ List.mem_cons_self))).trans (h.2 i hi hn)⟩
theorem suw3_0 {W W' : World} {g : Nat} {t : TypeId} {x y z x' : Value} (hW : W' = W.setCell ⟨g, 0, none⟩ x') (X : Box W g t #[x, y, z]) :
    Box W' g t #[x', y, z] ∧ True ∧ (∀ g' t' cs, Box W g' t' cs → g' ≠ g → Box W' g' t' cs) ∧ (∀ w0 : World, Wr g w0 W → True → Wr g w0 W') ∧ W'.heap.size = W.heap.size := by
  subst hW; exact ⟨X.set (i := 0), trivial, fun _ _ _ h hne => h.other hne, fun _ h _ => h.trans (Wr.cell _), by simp⟩
theorem suw3_1 {W W' : World} {g : Nat} {t : TypeId} {x y z x' : Value} (hW : W' = W.setCell ⟨g, 1, none⟩ x') (X : Box W g t #[x, y, z]) :
    Box W' g t #[x, x', z] ∧ True ∧ (∀ g' t' cs, Box W g' t' cs → g' ≠ g → Box W' g' t' cs) ∧ (∀ w0 : World, Wr g w0 W → True → Wr g w0 W') ∧ W'.heap.size = W.heap.size := by
  subst hW; exact ⟨X.set (i := 1), trivial, fun _ _ _ h hne => h.other hne, fun _ h _ => h.trans (Wr.cell _), by simp⟩
theorem suw3_2 {W W' : World} {g : Nat} {t : TypeId} {x y z x' : Value} (hW : W' = W.setCell ⟨g, 2, none⟩ x') (X : Box W g t #[x, y, z]) :
    Box W' g t #[x, y, x'] ∧ True ∧ (∀ g' t' cs, Box W g' t' cs → g' ≠ g → Box W' g' t' cs) ∧ (∀ w0 : World, Wr g w0 W → True → Wr g w0 W') ∧ W'.heap.size = W.heap.size := by
  subst hW; exact ⟨X.set (i := 2), trivial, fun _ _ _ h hne => h.other hne, fun _ h _ => h.trans (Wr.cell _), by simp⟩
end Go.Proofs.Ytfffehmkohcgcaa
