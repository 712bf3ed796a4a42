/- Laws on append for slices of limbs: no program in sight. -/
import Derived.Test.YtfkjhaniglmejaaMem
namespace Go.Proofs.Ytfkjhaniglmejaa
open Go.RowKit Nt

/-- append looks at its second type only to see that it is no integer type. -/
theorem append_types {P : Program} (w : World) (t t' e e' ty : TypeId) (args : Array Value) (h1 : P.underlying t = some (.slice e)) (h1' : P.underlying t' = some (.slice e')) :
    (Builtin.append_ #[t, t'] ty args).run P w = (Builtin.append_ #[t, t] ty args).run P w := by
  simp only [Builtin.append_]
  rcases args with ⟨_ | ⟨a, _ | ⟨b, r⟩⟩⟩ <;> simp [run_underlying h1]
  cases a <;> simp [sizeOf, typeInfo]
  rename_i ad n c
  cases hi : P.info? e <;> simp [run_underlying h1, run_underlying h1']

/-- What the call owns: a slice of limbs that it may append to. -/
def OwnU (w : World) (base : Nat) (e : TypeId) (v : Value) (xs : List Nat) : Prop :=
  w.ownsRow base e 1 v xs.length (xs.map fun (x : Nat) => Value.int .u32 (x : Int))

theorem OwnU.nil (w : World) (base : Nat) (e : TypeId) : OwnU w base e (.slice none 0 0) [] := by unfold OwnU; exact World.ownsRow_nil w base e 1

theorem OwnU.sl {w : World} {base : Nat} {e : TypeId} {v : Value} {xs : List Nat} (h : OwnU w base e v xs) (hx : lims xs) (hm : xs.length ≤ 1099511627776) : Sl w v xs := by
  obtain ⟨_, ⟨hv, hn⟩ | ⟨g, cap, cur, hv, hb, hh, hnc, hcm, hcs, ht⟩⟩ := h
  · obtain rfl : xs = [] := List.eq_nil_of_length_eq_zero hn
    rw [hv]; exact Sl.nil w
  · refine ⟨_, _, cap, hv, rfl, hnc, hm, hx, fun h0 => ⟨g, 0, rfl, lt_of_block hh, fun i hi => ?_⟩⟩
    have : cur[i]? = some (.int .u32 ((xs.getD i 0 : Nat) : Int)) := by
      have e1 : (cur.toList.take (xs.length * 1))[i]? = cur[i]? := by
        rw [List.getElem?_take, if_pos (by omega)]; simp
      rw [← e1, ht]
      simp [List.getD, hi]
    simp [World.cell?, hh, this]

theorem OwnU.below {w w' : World} {B base : Nat} {e : TypeId} {v : Value} {xs : List Nat} (h : OwnU w base e v xs) (hb : Below B w w') (hlt : w.heap.size ≤ B) : OwnU w' base e v xs := by
  obtain ⟨h1, ⟨hv, hn⟩ | ⟨g, cap, cur, hv, hbg, hh, r⟩⟩ := h
  · exact ⟨h1, .inl ⟨hv, hn⟩⟩
  · exact ⟨h1, .inr ⟨g, cap, cur, hv, hbg, (hb.block g (Nat.lt_of_lt_of_le (lt_of_block hh) hlt)).trans hh, r⟩⟩

theorem OwnU.drew {w : World} {base : Nat} {e : TypeId} {v : Value} {xs : List Nat} (h : OwnU w base e v xs) : OwnU w.drew base e v xs := h
theorem OwnU.drewN {w : World} {base n : Nat} {e : TypeId} {v : Value} {xs : List Nat} (h : OwnU w base e v xs) : OwnU (w.drewN n) base e v xs := h

/-- 'append(out, x)', out the call's own. -/
theorem wpList_push_u32 {P : Program} (w : World) {ops : Array Oper} {rest : List Oper} {o : Oper} {a : Act} {Q : Exit → Act → World → Prop}
    (hg : o.guard = none) (s x : Operand) (t t' : TypeId) (ho : o.op = .call { callee := .builtin .append, args := #[s, x], argTypes := #[t, t'] })
    (e : TypeId) (h1 : P.underlying t = some (.slice e)) (h1' : P.underlying t' = some (.slice e)) (h2 : (P.info? e).map (fun i => (i.zero, i.size, i.bytes)) = some (some (.int .u32 0), 1, 4))
    (base : Nat) (v : Value) (xs : List Nat) (hs : a.eval s = v) (hown : OwnU w base e v xs) (g c : Nat) (y : Int) (hx : a.eval x = .slice (some ⟨g, 0, none⟩) 1 c)
    (hcell : w.cell? ⟨g, 0, none⟩ = some (.int .u32 y)) (hy0 : 0 ≤ y) (hm : xs.length ≤ 1099511627776) (hbase : base ≤ w.heap.size)
    (h : ∀ v' w', OwnU w' base e v' (xs ++ [y.toNat]) → Below base w w' → wpList P ops Q rest (a.put o.dst v') w') : wpList P ops Q (o :: rest) a w := by
  obtain ⟨i0, hi, hz0, hz1, hz2⟩ := info_parts h2
  refine wpList_plain hg fun K hK' => ?_
  obtain ⟨v', w', hr, r1, r2, _⟩ := run_append_own (P := P) w base t o.type e i0 (.int .u32 0) 1 4 h1 hi hz0 hz1 hz2 rfl (by decide) v xs.length _ hown
    ⟨g, 0, none⟩ 1 c [.int .u32 y] rfl (by
      intro j u hj
      match j, hj with
      | 0, hj => simp at hj; subst hj; simpa [Addr.add] using hcell) (by intro u hu; simp at hu; subst hu; rfl) (by unfold maxLen; omega) (by omega) hbase
  have hlt : ∀ k, v.ownBlock = some k → base ≤ k := fun k hk => (hown.lt k hk).1
  rw [← append_types w t t' e e o.type _ h1 h1'] at hr
  unfold Oper.wp execOp
  simp only [ho, resolve, invoke, builtin, Sem.run_bind, Sem.run_pure, Result.andThen_ok, List.map_toArray, List.map_cons, List.map_nil, hs, hx, hr]
  refine hK' _ _ (h v' w' ?_ ((Below.refl _ _).grown r2 hbase hlt))
  unfold OwnU
  rw [List.length_append, List.map_append]
  simpa [Int.toNat_of_nonneg hy0] using r1

/-- The slice's memory is not older than B. -/
def FreshS (B : Nat) (v : Value) : Prop := ∀ b off n c, v = .slice (some ⟨b, off, none⟩) n c → 0 < n → B ≤ b

theorem FreshS.mono {B B' : Nat} {v : Value} (h : FreshS B v) (hB : B' ≤ B) : FreshS B' v := fun b off n c hv hn => Nat.le_trans hB (h b off n c hv hn)
theorem FreshS.nil (B : Nat) : FreshS B (.slice none 0 0) := fun b off n c hv _ => by injection hv with h; cases h

/-- A write into an older block. -/
theorem Sl.older {w : World} {v : Value} {xs : List Nat} {B b i : Nat} {u : Value} (h : Sl w v xs) (hf : FreshS B v) (hb : b < B) : Sl (w.setCell ⟨b, i, none⟩ u) v xs := by
  obtain ⟨ad, n, cap, hv, hl, hc, hm, hx, hs⟩ := h
  refine ⟨ad, n, cap, hv, hl, hc, hm, hx, fun h0 => ?_⟩
  obtain ⟨b', off, ha, hbs, hcell⟩ := hs h0
  have hge := hf b' off n cap (by rw [hv, ha]) h0
  refine ⟨b', off, ha, by simpa using hbs, fun j hj => ?_⟩
  rw [World.cell?_setCell_other w (a := ⟨b, i, none⟩) (b := ⟨b', off + j, none⟩) (v := u) (by intro e; injection e with e1; omega)]
  exact hcell j hj

/-- 'append(e, x...)', e empty and without room: a copy. -/
theorem wpList_copy_u32F {P : Program} (w : World) {ops : Array Oper} {rest : List Oper} {o : Oper} {a : Act} {Q : Exit → Act → World → Prop}
    (hg : o.guard = none) (s x : Operand) (t t' : TypeId) (ho : o.op = .call { callee := .builtin .append, args := #[s, x], argTypes := #[t, t'] })
    (e : TypeId) (h1 : P.underlying t = some (.slice e)) (h1' : P.underlying t' = some (.slice e)) (h2 : (P.info? e).map (fun i => (i.zero, i.size, i.bytes)) = some (some (.int .u32 0), 1, 4))
    (g : Nat) (hs : a.eval s = .slice (some ⟨g, 0, none⟩) 0 0) (v : Value) (xs : List Nat) (hx : a.eval x = v) (hv : Sl w v xs)
    (h : ∀ v' w', Sl w' v' xs → FreshS w.heap.size v' → Below w.heap.size w w' → wpList P ops Q rest (a.put o.dst v') w') : wpList P ops Q (o :: rest) a w := by
  obtain ⟨i0, hi, hz0, hz1, hz2⟩ := info_parts h2
  obtain ⟨ad, n, cap, rfl, hn, hnc, hm, hl, hc⟩ := hv
  refine wpList_plain hg fun K hK' => ?_
  have key : ∃ v' w', (Builtin.append_ #[t, t] o.type #[.slice (some ⟨g, 0, none⟩) 0 0, .slice ad n cap]).run P w = .ok v' w' ∧ Sl w' v' xs ∧ FreshS w.heap.size v' ∧ Below w.heap.size w w' := by
    by_cases h0 : n = 0
    · subst h0
      obtain rfl : xs = [] := List.eq_nil_of_length_eq_zero hn
      refine ⟨.slice (some ⟨g, 0, none⟩) 0 0, w, ?_, ⟨_, 0, 0, rfl, rfl, Nat.le_refl _, by decide, lims_nil, fun h => absurd h (by decide)⟩, fun b off n c hv hn => by injection hv with _ h2 _; omega, Below.refl _ _⟩
      cases ad <;> simp [Builtin.append_, run_underlying h1, sizeOf, typeInfo, hi, Builtin.lenOf, Builtin.firstCells, loadCells, loadCellsFrom, storeCells]
    · obtain ⟨b, off, rfl, hb, hcell⟩ := hc (by omega)
      have hr := run_append_grow (P := P) w t o.type e i0 (.int .u32 0) h1 hi hz0 ⟨g, 0, none⟩ 0 0 [] (by simp) (by intro j u hj; simp at hj) ⟨b, off, none⟩ n cap (xs.map fun (x : Nat) => Value.int .u32 (x : Int)) (by rw [hz1]; simp [hn]) (by
        intro j u hj
        have hjn : j < n := by
          have := (List.getElem?_eq_some_iff.1 hj).1
          simp at this; omega
        rw [Addr.add_lit, hcell j hjn, ← hj]
        simp [List.getD, show j < xs.length by omega]) (by omega) (by omega) (growslice_fits (by omega) (by rw [hz2]; omega))
      refine ⟨_, _, hr, ?_, fun b off n c hv _ => by injection hv with h1 _ _; injection h1 with h1; injection h1 with h1 _ _; omega, ?_⟩
      · have hge := grownCap_ge w (0 + n) 0 e
        refine ⟨_, 0 + n, _, rfl, by omega, hge, by omega, hl, fun _ => ⟨w.heap.size, 0, rfl, ?_, fun i hi => ?_⟩⟩
        · simp
        · rw [show 0 + i = i from Nat.zero_add i]
          refine (World.cell?_alloc_new w.drew _ e i).trans ?_
          have hi' : i < xs.length := by omega
          simp [Array.getElem?_append, hi', List.getD]
      · exact ((Below.refl _ _).drew).alloc (Nat.le_refl _) _
  obtain ⟨v', w', hr, r1, r3, r2⟩ := key
  rw [← append_types w t t' e e o.type _ h1 h1'] at hr
  unfold Oper.wp execOp
  simp only [ho, resolve, invoke, builtin, Sem.run_bind, Sem.run_pure, Result.andThen_ok, List.map_toArray, List.map_cons, List.map_nil, hs, hx, hr]
  exact hK' _ _ (h v' w' r1 r3 r2)

theorem wpList_copy_u32 {P : Program} (w : World) {ops : Array Oper} {rest : List Oper} {o : Oper} {a : Act} {Q : Exit → Act → World → Prop}
    (hg : o.guard = none) (s x : Operand) (t t' : TypeId) (ho : o.op = .call { callee := .builtin .append, args := #[s, x], argTypes := #[t, t'] })
    (e : TypeId) (h1 : P.underlying t = some (.slice e)) (h1' : P.underlying t' = some (.slice e)) (h2 : (P.info? e).map (fun i => (i.zero, i.size, i.bytes)) = some (some (.int .u32 0), 1, 4))
    (g : Nat) (hs : a.eval s = .slice (some ⟨g, 0, none⟩) 0 0) (v : Value) (xs : List Nat) (hx : a.eval x = v) (hv : Sl w v xs)
    (h : ∀ v' w', Sl w' v' xs → Below w.heap.size w w' → wpList P ops Q rest (a.put o.dst v') w') : wpList P ops Q (o :: rest) a w :=
  wpList_copy_u32F w hg s x t t' ho e h1 h1' h2 g hs v xs hx hv fun v' w' a _ b => h v' w' a b

/-- 'make([]uint32, n)': owned by the call. -/
theorem wpList_makeown_u32 {P : Program} (w : World) {ops : Array Oper} {rest : List Oper} {o : Oper} {a : Act} {Q : Exit → Act → World → Prop}
    (hg : o.guard = none) (l c : Operand) (t : TypeId) (hop : o.op = Op.makeSlice t l c) (e : TypeId)
    (h1 : P.underlying t = some (.slice e)) (h2 : (P.info? e).map (fun i => (i.zero, i.size, i.bytes)) = some (some (.int .u32 0), 1, 4))
    (L : Int) (n : Nat) (hl : a.eval l = .int .i64 L) (hc : a.eval c = .int .i64 L) (hL : L = (n : Int)) (hn : n ≤ 1099511627776)
    (hK : ∀ w' v, OwnU w' w.heap.size e v (List.replicate n 0) → Below w.heap.size w w' → wpList P ops Q rest (a.put o.dst v) w') :
    wpList P ops Q (o :: rest) a w := by
  obtain ⟨i0, hi, hz0, hz1, hz2⟩ := info_parts h2
  refine wpList_plain hg fun K hK' => ?_
  subst hL
  obtain ⟨w', hrun, r1, r2⟩ := run_make_full (P := P) w w.heap.size t e i0 (.int .u32 0) 1 h1 hi hz0 hz1 .i64 .i64 n (by rw [hz2]; omega) (by unfold maxLen; omega) (Nat.le_refl _)
  unfold Oper.wp
  simp [execOp, hop, hl, hc, hrun, Result.andThen]
  refine hK' _ _ (hK _ _ ?_ ((Below.refl _ _).grown r2 (Nat.le_refl _) (fun k h => by cases h)))
  unfold OwnU
  have e1 : (madeCells (Value.int .u32 0).cells (n * 1)).toList = (List.replicate n 0).map fun (x : Nat) => Value.int .u32 (x : Int) := by
    rw [Nat.mul_one]
    show (madeCells #[Value.int .u32 0] n).toList = _
    rw [toList_madeCells_one]; simp
  rw [List.length_replicate, ← e1]
  exact r1

end Go.Proofs.Ytfkjhaniglmejaa
