/- How slices of limbs read in memory: no program in sight. -/
import Derived.WalkKit
import Derived.WalkSpells
import Derived.WalkLawsBesides
import Derived.Lib.Hide
import Derived.BigQuiet
import Derived.Deep.QuietTactic
import Derived.Test.YtfkjhaniglmejaaNum
namespace Go.Proofs.Ytfkjhaniglmejaa
open Go.RowKit Nt

/-- The cell of a limb. -/
def u32 (x : Nat) : Value := .int .u32 (x : Int)

/-- The slice value v reads as the limbs xs. -/
def Sl (w : World) (v : Value) (xs : List Nat) : Prop :=
  ∃ ad n cap, v = .slice ad n cap ∧ xs.length = n ∧ n ≤ cap ∧ n ≤ 1099511627776 ∧ lims xs ∧
    (0 < n → ∃ b off, ad = some ⟨b, off, none⟩ ∧ b < w.heap.size ∧ ∀ i, i < n → w.cell? ⟨b, off + i, none⟩ = some (.int .u32 ((xs.getD i 0 : Nat) : Int)))

theorem Sl.lims {w : World} {v : Value} {xs : List Nat} (h : Sl w v xs) : lims xs := by
  obtain ⟨_, _, _, _, _, _, _, h, _⟩ := h; exact h
theorem Sl.len {w : World} {v : Value} {xs : List Nat} (h : Sl w v xs) : xs.length ≤ 1099511627776 := by
  obtain ⟨_, _, _, _, h, _, h', _, _⟩ := h; omega

theorem Sl.nil (w : World) : Sl w (.slice none 0 0) [] :=
  ⟨none, 0, 0, rfl, rfl, Nat.le_refl _, by decide, lims_nil, fun h => absurd h (by decide)⟩

/-- Old memory is as it was: a new world in which nothing old has turned. -/
theorem Sl.below {w w' : World} {v : Value} {xs : List Nat} (h : Sl w v xs) (hb : Below w.heap.size w w') : Sl w' v xs := by
  obtain ⟨ad, n, cap, hv, hl, hc, hm, hx, hs⟩ := h
  refine ⟨ad, n, cap, hv, hl, hc, hm, hx, fun h0 => ?_⟩
  obtain ⟨b, off, ha, hbs, hcell⟩ := hs h0
  exact ⟨b, off, ha, Nat.lt_of_lt_of_le hbs hb.size, fun i hi => (hb.cell (p := ⟨b, off + i, none⟩) hbs).trans (hcell i hi)⟩

/-- What stays below a mark that lies behind all of the slice's memory. -/
theorem Sl.belowAt {B : Nat} {w0 w w' : World} {v : Value} {xs : List Nat} (h : Sl w0 v xs) (h0 : B = w0.heap.size) (hb : Below B w w') (hw : Sl w v xs) : Sl w' v xs := by
  subst h0
  obtain ⟨ad, n, cap, hv, hl, hc, hm, hx, hs⟩ := hw
  obtain ⟨ad', n', cap', hv', hl', _, _, _, hs'⟩ := h
  refine ⟨ad, n, cap, hv, hl, hc, hm, hx, fun h0 => ?_⟩
  obtain ⟨b, off, ha, hbs, hcell⟩ := hs h0
  obtain ⟨b', off', ha', hbs', _⟩ := hs' (by omega)
  have hbb : b < w0.heap.size := by
    rw [hv] at hv'
    injection hv' with e1 _ _
    rw [ha, ha'] at e1
    injection e1 with e1
    injection e1 with e2 _ _
    omega
  exact ⟨b, off, ha, Nat.lt_of_lt_of_le hbs hb.size, fun i hi => (hb.cell (p := ⟨b, off + i, none⟩) hbb).trans (hcell i hi)⟩

theorem Sl.drew {w : World} {v : Value} {xs : List Nat} (h : Sl w v xs) : Sl w.drew v xs := h.below (Below.refl _ _).drew

/-- Block b holds the limbs xs from its head on, and may be written. -/
def Arr (w : World) (b : Nat) (xs : List Nat) : Prop :=
  ∃ cur e, w.heap[b]? = some (.cells cur e (0, 0)) ∧ ∀ i, i < xs.length → cur[i]? = some (.int .u32 ((xs.getD i 0 : Nat) : Int))

theorem Arr.lt {w : World} {b : Nat} {xs : List Nat} (h : Arr w b xs) : b < w.heap.size := by
  obtain ⟨cur, e, hh, _⟩ := h
  exact lt_of_block hh

theorem Arr.cell {w : World} {b : Nat} {xs : List Nat} (h : Arr w b xs) (i : Nat) (hi : i < xs.length) : w.cell? ⟨b, i, none⟩ = some (.int .u32 ((xs.getD i 0 : Nat) : Int)) := by
  obtain ⟨cur, e, hh, hc⟩ := h
  simp [World.cell?, hh, hc i hi]

theorem Arr.frozen {w : World} {b : Nat} {xs : List Nat} (h : Arr w b xs) (i : Nat) : w.frozen? ⟨b, i, none⟩ = false := by
  obtain ⟨cur, e, hh, hc⟩ := h
  simp [World.frozen?, hh]

theorem Arr.set {w : World} {b : Nat} {xs : List Nat} (h : Arr w b xs) (i : Nat) (x : Nat) : Arr (w.setCell ⟨b, i, none⟩ (.int .u32 (x : Int))) b (xs.set i x) := by
  obtain ⟨cur, e, hh, hc⟩ := h
  refine ⟨cur.setIfInBounds i (.int .u32 (x : Int)), e, heap_setCell_same w b i cur e _ hh, fun j hj => ?_⟩
  rw [List.length_set] at hj
  have hcj := hc j hj
  rw [Array.getElem?_setIfInBounds]
  by_cases hij : i = j
  · subst hij
    have hlt : i < cur.size := by
      rcases Nat.lt_or_ge i cur.size with h | h
      · exact h
      · rw [Array.getElem?_eq_none h] at hcj; cases hcj
    simp [hlt, List.getD, hj]
  · rw [if_neg hij, hcj]
    simp [List.getD, hij]

theorem Arr.setI {w : World} {b : Nat} {xs : List Nat} (h : Arr w b xs) (i : Nat) (z : Int) (hz : 0 ≤ z) : Arr (w.setCell ⟨b, i, none⟩ (.int .u32 z)) b (xs.set i z.toNat) := by
  have := h.set i z.toNat
  rwa [Int.toNat_of_nonneg hz] at this

theorem Arr.below {w w' : World} {b B : Nat} {xs : List Nat} (h : Arr w b xs) (hb : Below B w w') (hlt : b < B) : Arr w' b xs := by
  obtain ⟨cur, e, hh, hc⟩ := h
  exact ⟨cur, e, (hb.block b hlt).trans hh, hc⟩

theorem Arr.drew {w : World} {b : Nat} {xs : List Nat} (h : Arr w b xs) : Arr w.drew b xs := h
theorem Arr.drewN {w : World} {b n : Nat} {xs : List Nat} (h : Arr w b xs) : Arr (w.drewN n) b xs := h

/-- A write into another block. -/
theorem Arr.other {w : World} {b b' i : Nat} {u : Value} {xs : List Nat} (h : Arr w b xs) (hne : b ≠ b') : Arr (w.setCell ⟨b', i, none⟩ u) b xs := by
  obtain ⟨cur, e, hh, hc⟩ := h
  exact ⟨cur, e, (Below.heap_setCell w ⟨b', i, none⟩ u b hne).trans hh, hc⟩

/-- A written block, read. -/
theorem Arr.sl {w : World} {b cap : Nat} {xs : List Nat} (h : Arr w b xs) (hx : Nt.lims xs) (n : Nat) (hn : xs.length = n) (hc : n ≤ cap) (hm : n ≤ 1099511627776) : Sl w (.slice (some ⟨b, 0, none⟩) n cap) xs :=
  ⟨_, n, cap, rfl, hn, hc, hm, hx, fun _ => ⟨b, 0, rfl, h.lt, fun i hi => by rw [Nat.zero_add]; exact h.cell i (by omega)⟩⟩

/-- A part of a written block, read. -/
theorem Arr.slPart {w : World} {b cap off n : Nat} {xs : List Nat} (h : Arr w b xs) (hx : Nt.lims xs) (hn : off + n ≤ xs.length) (hc : n ≤ cap) (hm : n ≤ 1099511627776) : Sl w (.slice (some ⟨b, off, none⟩) n cap) ((xs.drop off).take n) :=
  ⟨_, n, cap, rfl, by simp; omega, hc, hm, lims_take (lims_drop hx off) n, fun _ => ⟨b, off, rfl, h.lt, fun i hi => by
    rw [h.cell (off + i) (by omega)]
    simp [List.getD, hi]⟩⟩

/-- Literal slices of limbs. -/
theorem sl_one (w : World) (e : TypeId) (a : Int) (ha : 0 ≤ a ∧ a < 4294967296) : Sl (w.alloc (.cells #[.int .u32 a] e)) (.slice (some ⟨w.heap.size, 0, none⟩) 1 1) [a.toNat] :=
  ⟨_, 1, 1, rfl, rfl, Nat.le_refl _, by decide, lims_cons (by omega) lims_nil, fun _ => ⟨w.heap.size, 0, rfl, by simp, fun i hi => by
    match i, hi with
    | 0, _ => simp; omega⟩⟩
theorem sl_two (w : World) (e : TypeId) (a b : Int) (ha : 0 ≤ a ∧ a < 4294967296) (hb : 0 ≤ b ∧ b < 4294967296) :
    Sl (w.alloc (.cells #[.int .u32 a, .int .u32 b] e)) (.slice (some ⟨w.heap.size, 0, none⟩) 2 2) [a.toNat, b.toNat] :=
  ⟨_, 2, 2, rfl, rfl, Nat.le_refl _, by decide, lims_cons (by omega) (lims_cons (by omega) lims_nil), fun _ => ⟨w.heap.size, 0, rfl, by simp, fun i hi => by
    match i, hi with
    | 0, _ => simp; omega
    | 1, _ => simp; omega⟩⟩
theorem sl_three (w : World) (e : TypeId) (a b c : Int) (ha : 0 ≤ a ∧ a < 4294967296) (hb : 0 ≤ b ∧ b < 4294967296) (hc : 0 ≤ c ∧ c < 4294967296) :
    Sl (w.alloc (.cells #[.int .u32 a, .int .u32 b, .int .u32 c] e)) (.slice (some ⟨w.heap.size, 0, none⟩) 3 3) [a.toNat, b.toNat, c.toNat] :=
  ⟨_, 3, 3, rfl, rfl, Nat.le_refl _, by decide, lims_cons (by omega) (lims_cons (by omega) (lims_cons (by omega) lims_nil)), fun _ => ⟨w.heap.size, 0, rfl, by simp, fun i hi => by
    match i, hi with
    | 0, _ => simp; omega
    | 1, _ => simp; omega
    | 2, _ => simp; omega⟩⟩

/-- A call that returns, and turns nothing old: P says what it returns. -/
def Ret (w : World) (P : World → Value → Prop) (e : Ending) (w' : World) : Prop :=
  ∃ v, e = .returned v ∧ P w' v ∧ Below w.heap.size w w'

/-- A number comes back as its canonical limbs. -/
def Num (n : Nat) (w : World) (v : Value) : Prop := Sl w v (limbs n)
def Num2 (n m : Nat) (w : World) (v : Value) : Prop := ∃ a b, v = .tuple #[a, b] ∧ Sl w a (limbs n) ∧ Sl w b (limbs m)
def NumE (n : Nat) (err : Int) (w : World) (v : Value) : Prop := ∃ a, v = .tuple #[a, .int .i64 err] ∧ Sl w a (limbs n)
def Num2E (n m : Nat) (err : Int) (w : World) (v : Value) : Prop := ∃ a b, v = .tuple #[a, b, .int .i64 err] ∧ Sl w a (limbs n) ∧ Sl w b (limbs m)
def Val (u : Value) (_ : World) (v : Value) : Prop := v = u

/-- 'make([]uint32, n)': a block of n limbs 0. -/
theorem wpList_make_u32 {P : Program} (w : World) {ops : Array Oper} {rest : List Oper} {o : Oper} {a : Act} {Q : Exit → Act → World → Prop}
    (hg : o.guard = none) (l c : Operand) (t : TypeId) (hop : o.op = Op.makeSlice t l c) (e : TypeId)
    (h1 : P.underlying t = some (.slice e)) (h2 : (P.info? e).map (fun i => (i.zero, i.size, i.bytes)) = some (some (.int .u32 0), 1, 4))
    (L : Int) (n : Nat) (hl : a.eval l = .int .i64 L) (hc : a.eval c = .int .i64 L) (hL : L = (n : Int)) (hn : n ≤ 1099511627776)
    (hK : ∀ w', Arr w' w.heap.size (List.replicate n 0) → Below w.heap.size w w' → w'.heap.size = w.heap.size + 1 → wpList P ops Q rest (a.put o.dst (.slice (some ⟨w.heap.size, 0, none⟩) n n)) w') :
    wpList P ops Q (o :: rest) a w := by
  obtain ⟨i0, hi, hz0, hz1, hz2⟩ := info_parts h2
  refine wpList_plain hg fun K hK' => ?_
  subst hL
  have hrun := run_make (P := P) w t e i0 (.int .u32 0) h1 hi hz0 .i64 .i64 (n : Int) (n : Int) (by omega) (Int.le_refl _) (by rw [hz2]; omega) (by omega)
  simp only [Int.toNat_natCast] at hrun
  unfold Oper.wp
  simp [execOp, hop, hl, hc, hrun, Result.andThen]
  refine hK' _ _ (hK _ ?_ ?_ ?_)
  · refine ⟨_, e, heap_alloc_new w _, fun i hi => ?_⟩
    simp only [List.length_replicate] at hi
    simp [hz1, Value.cells, madeCells, hi, List.getD, Nat.mod_one]
  · exact (Below.refl _ _).alloc (Nat.le_refl _) _
  · simp

end Go.Proofs.Ytfkjhaniglmejaa
