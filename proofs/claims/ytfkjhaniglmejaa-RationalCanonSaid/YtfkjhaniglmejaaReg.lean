/- Steps of a region that draws its order: a call by its contract, an append of limbs. No program in sight. -/
import Derived.Test.YtfkjhaniglmejaaApp
import Derived.Deep.RegionLaw
namespace Go.Proofs.Ytfkjhaniglmejaa
open Go.RowKit Nt

theorem run_enter {P : Program} {f : FuncId} {fn : Func} {c : Code} (hf : P.funcs[f]? = some fn) (hname : (fn.name == "runtime.NumGoroutine") = false) (hb : fn.body = some c) (args : Array Value) (w : World) :
    (callFunc f args).run P w = .ok (.enter f args) w := by
  unfold callFunc
  simp [hf, hb]
  simpa using hname

/-- A call of a Go function, by its contract, as one step of a region that draws. -/
theorem step_call {P : Program} {ops : Array Oper} {o : Oper} {a : Act} {w : World} {K : Act → World → Prop} {Q : Exit → Act → World → Prop} {E : Prop}
    (hg : o.guard = none) (f : FuncId) (x : Array Operand) (tys : Array TypeId) (hop : o.op = Op.call { callee := Callee.value (Operand.func f), args := x, argTypes := tys })
    {fn : Func} {c : Code} (hf : P.funcs[f]? = some fn) (hname : (fn.name == "runtime.NumGoroutine") = false) (hb : fn.body = some c)
    {R : World → Value → Prop} {args : Array Value} (hargs : x.map a.eval = args) (hc : Calls P f args w (Ret w R))
    (hK : ∀ v w', R w' v → Below w.heap.size w w' → K (a.put o.dst v) w') :
    if Region.wanted o (yielded ops a.tmps) = true then Oper.wp P o a w K Q else E := by
  have hw : Region.wanted o (yielded ops a.tmps) = true := by simp [Region.wanted, hg]
  rw [if_pos hw]
  have key : o.upon P a K Q (.ok (.enter f args) w) := by
    rw [Oper.upon_enter]
    refine hc.mono ?_
    rintro e w' ⟨v, rfl, h1, h2⟩
    exact hK v w' h1 h2
  unfold Oper.wp
  have e : (execOp a.eval o).run P w = .ok (.enter f args) w := by
    obtain ⟨dst, op, ty, pos, after, guard⟩ := o
    dsimp only at hop hg
    subst hop
    rw [execOp_call_go, hargs]
    simpa using run_enter hf hname hb args w
  rw [e]
  exact key

/-- It is a call of f: else nothing is tried. -/
theorem step_is {P : Program} {ops : Array Oper} {o : Oper} {a : Act} {w : World} {K : Act → World → Prop} {Q : Exit → Act → World → Prop} {E : Prop} (f : FuncId) {x : Array Operand} {tys : Array TypeId}
    (_hop : o.op = Op.call { callee := Callee.value (Operand.func f), args := x, argTypes := tys })
    (h : if Region.wanted o (yielded ops a.tmps) = true then Oper.wp P o a w K Q else E) : if Region.wanted o (yielded ops a.tmps) = true then Oper.wp P o a w K Q else E := h
theorem step_call1 {P : Program} {ops : Array Oper} {o : Oper} {a : Act} {w : World} {K : Act → World → Prop} {Q : Exit → Act → World → Prop} {E : Prop}
    (hg : o.guard = none) (f : FuncId) (x : Operand) (tys : Array TypeId) (hop : o.op = Op.call { callee := Callee.value (Operand.func f), args := #[x], argTypes := tys })
    {fn : Func} {c : Code} (hf : P.funcs[f]? = some fn) (hname : (fn.name == "runtime.NumGoroutine") = false) (hb : fn.body = some c)
    {R : World → Value → Prop} {u : Value} (h1 : a.eval x = u) (hc : Calls P f #[u] w (Ret w R))
    (hK : ∀ v w', R w' v → Below w.heap.size w w' → K (a.put o.dst v) w') :
    if Region.wanted o (yielded ops a.tmps) = true then Oper.wp P o a w K Q else E :=
  step_call hg f #[x] tys hop hf hname hb (by simp [h1]) hc hK
theorem step_call2 {P : Program} {ops : Array Oper} {o : Oper} {a : Act} {w : World} {K : Act → World → Prop} {Q : Exit → Act → World → Prop} {E : Prop}
    (hg : o.guard = none) (f : FuncId) (x y : Operand) (tys : Array TypeId) (hop : o.op = Op.call { callee := Callee.value (Operand.func f), args := #[x, y], argTypes := tys })
    {fn : Func} {c : Code} (hf : P.funcs[f]? = some fn) (hname : (fn.name == "runtime.NumGoroutine") = false) (hb : fn.body = some c)
    {R : World → Value → Prop} {u v : Value} (h1 : a.eval x = u) (h2 : a.eval y = v) (hc : Calls P f #[u, v] w (Ret w R))
    (hK : ∀ v w', R w' v → Below w.heap.size w w' → K (a.put o.dst v) w') :
    if Region.wanted o (yielded ops a.tmps) = true then Oper.wp P o a w K Q else E :=
  step_call hg f #[x, y] tys hop hf hname hb (by simp [h1, h2]) hc hK

/-- append of limbs onto a slice without room: a new block. -/
theorem run_append_u32 {P : Program} (w : World) (t t' e ty : TypeId) (h1 : P.underlying t = some (.slice e)) (h1' : P.underlying t' = some (.slice e)) (h2 : (P.info? e).map (fun i => (i.zero, i.size, i.bytes)) = some (some (.int .u32 0), 1, 4))
    (g n : Nat) (v : Value) (xs ys : List Nat) (hs : Sl w (.slice (some ⟨g, 0, none⟩) n n) xs) (hv : Sl w v ys) (hpos : 0 < ys.length) (hm : xs.length + ys.length ≤ 1099511627776) :
    ∃ v' w', (Builtin.append_ #[t, t'] ty #[.slice (some ⟨g, 0, none⟩) n n, v]).run P w = .ok v' w' ∧ Sl w' v' (xs ++ ys) ∧ Below w.heap.size w w' := by
  obtain ⟨i0, hi, hz0, hz1, hz2⟩ := info_parts h2
  have hxn : xs.length = n := by
    obtain ⟨_, _, _, e, hl, _⟩ := hs
    injection e with _ e2 _; omega
  have hcs : ∀ i, i < n → w.cell? ⟨g, i, none⟩ = some (.int .u32 ((xs.getD i 0 : Nat) : Int)) := by
    intro i hi
    obtain ⟨_, _, _, e, hl, _, _, _, hc⟩ := hs
    injection e with e1 e2 _
    obtain ⟨b, off, e3, _, hcell⟩ := hc (by omega)
    rw [← e1] at e3
    injection e3 with e3
    injection e3 with e4 e5 _
    subst e4 e5
    have := hcell i (by omega)
    rwa [Nat.zero_add] at this
  obtain ⟨ad, m, cap, rfl, hn, hnc, hmm, hl, hc⟩ := hv
  obtain ⟨b, off, rfl, hb, hcell⟩ := hc (by omega)
  have hr := run_append_grow (P := P) w t ty e i0 (.int .u32 0) h1 hi hz0 ⟨g, 0, none⟩ n n (xs.map fun (x : Nat) => Value.int .u32 (x : Int)) (by rw [hz1]; simp [hxn]) (by
      intro j u hj
      have hjn : j < n := by
        have := (List.getElem?_eq_some_iff.1 hj).1
        simp at this; omega
      rw [Addr.add_lit, Nat.zero_add, hcs j hjn, ← hj]
      simp [List.getD, show j < xs.length by omega])
    ⟨b, off, none⟩ m cap (ys.map fun (x : Nat) => Value.int .u32 (x : Int)) (by rw [hz1]; simp [hn]) (by
      intro j u hj
      have hjn : j < m := by
        have := (List.getElem?_eq_some_iff.1 hj).1
        simp at this; omega
      rw [Addr.add_lit, hcell j hjn, ← hj]
      simp [List.getD, show j < ys.length by omega]) (by omega) (by omega) (growslice_fits (by omega) (by rw [hz2]; omega))
  rw [← append_types w t t' e e ty _ h1 h1'] at hr
  refine ⟨_, _, hr, ?_, ((Below.refl _ _).drew).alloc (Nat.le_refl _) _⟩
  have hge := grownCap_ge w (n + m) n e
  refine ⟨_, n + m, _, rfl, by simp; omega, hge, by omega, lims_append hs.lims hl, fun _ => ⟨w.heap.size, 0, rfl, by simp, fun i hi => ?_⟩⟩
  rw [show 0 + i = i from Nat.zero_add i]
  refine (World.cell?_alloc_new w.drew _ e i).trans ?_
  have e0 : (xs.map fun (x : Nat) => Value.int .u32 (x : Int)).toArray ++ (ys.map fun (x : Nat) => Value.int .u32 (x : Int)).toArray = ((xs ++ ys).map fun (x : Nat) => Value.int .u32 (x : Int)).toArray := by simp
  rw [e0]
  have hlt : i < (xs ++ ys).length := by simp; omega
  generalize xs ++ ys = zs at *
  simp [Array.getElem?_append, hlt, List.getD]

/-- The same as one step of a region that draws. -/
theorem step_append_u32 {P : Program} {ops : Array Oper} {o : Oper} {a : Act} {w : World} {K : Act → World → Prop} {Q : Exit → Act → World → Prop} {E : Prop}
    (hg : o.guard = none) (s x : Operand) (t t' : TypeId) (hop : o.op = Op.call { callee := Callee.builtin Builtin.append, args := #[s, x], argTypes := #[t, t'] })
    (e : TypeId) (h1 : P.underlying t = some (.slice e)) (h1' : P.underlying t' = some (.slice e)) (h2 : (P.info? e).map (fun i => (i.zero, i.size, i.bytes)) = some (some (.int .u32 0), 1, 4))
    (g n : Nat) (v : Value) (xs ys : List Nat) (hs : a.eval s = .slice (some ⟨g, 0, none⟩) n n) (hx : a.eval x = v) (hsl : Sl w (.slice (some ⟨g, 0, none⟩) n n) xs) (hv : Sl w v ys) (hpos : 0 < ys.length) (hm : xs.length + ys.length ≤ 1099511627776)
    (hK : ∀ v' w', Sl w' v' (xs ++ ys) → Below w.heap.size w w' → K (a.put o.dst v') w') :
    if Region.wanted o (yielded ops a.tmps) = true then Oper.wp P o a w K Q else E := by
  have hw : Region.wanted o (yielded ops a.tmps) = true := by simp [Region.wanted, hg]
  rw [if_pos hw]
  obtain ⟨v', w', hr, r1, r2⟩ := run_append_u32 (P := P) w t t' e o.type h1 h1' h2 g n v xs ys hsl hv hpos hm
  unfold Oper.wp execOp
  simp only [hop, resolve, invoke, builtin, Sem.run_bind, Sem.run_pure, Result.andThen_ok, List.map_toArray, List.map_cons, List.map_nil, hs, hx, hr]
  exact hK v' w' r1 r2

/-- 'make([]uint32, n)', the run itself. -/
theorem run_make_u32 {P : Program} (t e : TypeId) (h1 : P.underlying t = some (.slice e)) (h2 : (P.info? e).map (fun i => (i.zero, i.size, i.bytes)) = some (some (.int .u32 0), 1, 4))
    (L : Int) (n : Nat) (hL : L = (n : Int)) (hn : n ≤ 1099511627776) (w : World) :
    (Instr.makeSlice t (.int .i64 L) (.int .i64 L)).run P w = .ok (.slice (some ⟨w.heap.size, 0, none⟩) n n) (w.alloc (.cells (madeCells #[.int .u32 0] n) e)) := by
  obtain ⟨i0, hi, hz0, hz1, hz2⟩ := info_parts h2
  subst hL
  have hrun := run_make (P := P) w t e i0 (.int .u32 0) h1 hi hz0 .i64 .i64 (n : Int) (n : Int) (by omega) (Int.le_refl _) (by rw [hz2]; omega) (by omega)
  simpa [hz1, Value.cells] using hrun

theorem sl_made (w : World) (e : TypeId) (n : Nat) (hn : n ≤ 1099511627776) : Sl (w.alloc (.cells (madeCells #[.int .u32 0] n) e)) (.slice (some ⟨w.heap.size, 0, none⟩) n n) (List.replicate n 0) :=
  ⟨_, n, n, rfl, by simp, Nat.le_refl _, hn, lims_replicate n, fun _ => ⟨w.heap.size, 0, rfl, by simp, fun i hi => by
    rw [show 0 + i = i from Nat.zero_add i]
    refine (World.cell?_alloc_new w _ e i).trans ?_
    simp [madeCells, hi, Nat.mod_one, List.getD]⟩⟩

end Go.Proofs.Ytfkjhaniglmejaa
