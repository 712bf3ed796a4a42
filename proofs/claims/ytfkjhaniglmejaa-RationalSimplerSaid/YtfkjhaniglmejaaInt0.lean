/- Memory of an api.Int: a box of two cells that a call has left alone, and a result that lies in such a box. -/
import Derived.Test.YtfkjhaniglmejaaNatL
import Derived.Test.YtfkjhaniglmejaaLawD
import Derived.Deep.MidRow
namespace Go.Proofs.Ytfkjhaniglmejaa
open Go.RowKit Nt

theorem frozen_new (w : World) (c : Array Value) (t : TypeId) (i : Nat) : (w.alloc (.cells c t)).frozen? ⟨w.heap.size, i, none⟩ = false := by
  rw [frozen?_alloc_cells]
  simp [World.frozen?]

/-- A cell of two fields that a call has left alone. -/
theorem box_kept {w w1 : World} {x y : Value} {t : TypeId} (hb : Below (w.alloc (.cells #[x, y] t)).heap.size (w.alloc (.cells #[x, y] t)) w1) :
    w1.cell? ⟨w.heap.size, 0, none⟩ = some x ∧ w1.cell? ⟨w.heap.size, 1, none⟩ = some y ∧ w1.frozen? ⟨w.heap.size, 0, none⟩ = false ∧ w1.frozen? ⟨w.heap.size, 1, none⟩ = false := by
  have hs : w.heap.size < (w.alloc (.cells #[x, y] t)).heap.size := by simp
  refine ⟨(hb.cell hs).trans ?_, (hb.cell hs).trans ?_, (hb.frozen hs).trans ?_, (hb.frozen hs).trans ?_⟩
  · rw [World.cell?_alloc_at _ _ _ _ (by simp)]; rfl
  · rw [World.cell?_alloc_at _ _ _ _ (by simp)]; rfl
  · exact frozen_new _ _ _ _
  · exact frozen_new _ _ _ _

theorem results_mid {fn : Func} {p : Tmp} {ty : TypeId} (h : fn.results = #[.cell p ty]) (tmps : Array Value) (P : Program) (w : World) (g : Nat) (cs : List Value) (d : TypeDesc)
    (hp : tmps.getD p undef = .pointer (some ⟨g, 0, none⟩)) (hc : w.rangeAt g 0 cs) (hu : P.underlying ty = some d) (hd : d.isRow = true) (hi : (P.info? ty).map (·.size) = some cs.length) :
    (results fn tmps).run P w = .ok (.agg cs.toArray) w := by
  have hp' : tmps[p]?.getD undef = .pointer (some ⟨g, 0, none⟩) := by simpa using hp
  simp [results, h, hp', asAddr, run_loadVar_mid w g 0 ty cs d hc hu hd hi]

theorem range2 {w : World} {g : Nat} {x y : Value} (h0 : w.cell? ⟨g, 0, none⟩ = some x) (h1 : w.cell? ⟨g, 1, none⟩ = some y) : w.rangeAt g 0 [x, y] := by
  intro j v hv
  match j, hv with
  | 0, hv => cases hv; exact h0
  | 1, hv => cases hv; exact h1
  | j + 2, hv => simp at hv

/-- An api.Int that a function hands back out of its cell. -/
theorem ret_int {fn : Func} {p : Tmp} (h : fn.results = #[.cell p 33]) (tmps : Array Value) (w : World) (g : Nat) (x y : Value)
    (hp : tmps.getD p undef = .pointer (some ⟨g, 0, none⟩)) (h0 : w.cell? ⟨g, 0, none⟩ = some x) (h1 : w.cell? ⟨g, 1, none⟩ = some y) : (results fn tmps).run Try.prog w = .ok (.agg #[x, y]) w :=
  results_mid h tmps _ w g [x, y] _ hp (range2 h0 h1) Try.underlying33 rfl (by kernel_rfl)

/-- Both cells written. -/
theorem box_set {w : World} {b : Nat} {x y x' y' : Value} (h0 : w.cell? ⟨b, 0, none⟩ = some x) (h1 : w.cell? ⟨b, 1, none⟩ = some y) :
    ((w.setCell ⟨b, 0, none⟩ x').setCell ⟨b, 1, none⟩ y').cell? ⟨b, 0, none⟩ = some x' ∧ ((w.setCell ⟨b, 0, none⟩ x').setCell ⟨b, 1, none⟩ y').cell? ⟨b, 1, none⟩ = some y' := by
  have hne : (⟨b, 0, none⟩ : Addr) ≠ ⟨b, 1, none⟩ := by simp
  have k0 : (w.setCell ⟨b, 0, none⟩ x').cell? ⟨b, 0, none⟩ = some x' := World.cell?_setCell_same' _ _ _ (by rw [h0]; rfl)
  have k1 : (w.setCell ⟨b, 0, none⟩ x').cell? ⟨b, 1, none⟩ = some y := (World.cell?_setCell_other _ _ _ _ hne).trans h1
  exact ⟨(World.cell?_setCell_other _ _ _ _ (Ne.symm hne)).trans k0, World.cell?_setCell_same' _ _ _ (by rw [k1]; rfl)⟩

/-- Two boxes and a result's cell, and a call behind them. -/
theorem boxes2 {w w1 : World} {x y x' y' : Value} {o : Obj} {t t' : TypeId} (hb : Below (((w.alloc (.cells #[x, y] t)).alloc (.cells #[x', y'] t')).alloc o).drew.heap.size (((w.alloc (.cells #[x, y] t)).alloc (.cells #[x', y'] t')).alloc o).drew w1) :
    w1.cell? ⟨w.heap.size, 0, none⟩ = some x ∧ w1.cell? ⟨w.heap.size, 1, none⟩ = some y ∧ w1.cell? ⟨w.heap.size + 1, 0, none⟩ = some x' ∧ w1.cell? ⟨w.heap.size + 1, 1, none⟩ = some y' := by
  have b1 : Below (w.alloc (.cells #[x, y] t)).heap.size (w.alloc (.cells #[x, y] t)) w1 :=
    ((((Below.refl _ _).alloc (by simp) _).alloc (by simp) _).drew).trans (hb.mono (by simp [World.drew]))
  have b2 : Below ((w.alloc (.cells #[x, y] t)).alloc (.cells #[x', y'] t')).heap.size ((w.alloc (.cells #[x, y] t)).alloc (.cells #[x', y'] t')) w1 :=
    (((Below.refl _ _).alloc (by simp) _).drew).trans (hb.mono (by simp [World.drew]))
  have h1 := box_kept b1
  have h2 := box_kept b2
  rw [World.size_alloc] at h2
  exact ⟨h1.1, h1.2.1, h2.1, h2.2.1⟩

theorem boxes2s {w1 : World} {g : Nat} {a b c d u u' : Value} (h : w1.cell? ⟨g, 0, none⟩ = some a ∧ w1.cell? ⟨g, 1, none⟩ = some b ∧ w1.cell? ⟨g + 1, 0, none⟩ = some c ∧ w1.cell? ⟨g + 1, 1, none⟩ = some d) :
    ((w1.setCell ⟨g + 1 + 1, 0, none⟩ u).setCell ⟨g + 1 + 1, 1, none⟩ u').cell? ⟨g, 0, none⟩ = some a ∧ ((w1.setCell ⟨g + 1 + 1, 0, none⟩ u).setCell ⟨g + 1 + 1, 1, none⟩ u').cell? ⟨g, 1, none⟩ = some b ∧
      ((w1.setCell ⟨g + 1 + 1, 0, none⟩ u).setCell ⟨g + 1 + 1, 1, none⟩ u').cell? ⟨g + 1, 0, none⟩ = some c ∧ ((w1.setCell ⟨g + 1 + 1, 0, none⟩ u).setCell ⟨g + 1 + 1, 1, none⟩ u').cell? ⟨g + 1, 1, none⟩ = some d := by
  have far : ∀ (b i : Nat), b < g + 1 + 1 → ((w1.setCell ⟨g + 1 + 1, 0, none⟩ u).setCell ⟨g + 1 + 1, 1, none⟩ u').cell? ⟨b, i, none⟩ = w1.cell? ⟨b, i, none⟩ := fun b i hb =>
    (World.cell?_setCell_other _ _ _ _ (by intro he; injection he with he; omega)).trans (World.cell?_setCell_other _ _ _ _ (by intro he; injection he with he; omega))
  exact ⟨(far _ _ (by omega)).trans h.1, (far _ _ (by omega)).trans h.2.1, (far _ _ (by omega)).trans h.2.2.1, (far _ _ (by omega)).trans h.2.2.2⟩

theorem Sl.lit {w : World} {v : Value} {xs : List Nat} (h : Sl w v xs) : ∃ ad n cap, v = .slice ad n cap := let ⟨ad, n, cap, hv, _⟩ := h; ⟨ad, n, cap, hv⟩

/-- A slice of limbs does not lie in a cell that holds no number. -/
theorem Sl.poke {w : World} {v u x : Value} {xs : List Nat} (h : Sl w v xs) {p : Addr} (hp : w.cell? p = some x) (hx : ∀ k n, x ≠ .int k n) : Sl (w.setCell p u) v xs := by
  obtain ⟨ad, n, cap, hv, hl, hc, hm, hlm, hs⟩ := h
  refine ⟨ad, n, cap, hv, hl, hc, hm, hlm, fun h0 => ?_⟩
  obtain ⟨b, off, ha, hbs, hcell⟩ := hs h0
  refine ⟨b, off, ha, by simpa using hbs, fun i hi => ?_⟩
  have hne : p ≠ ⟨b, off + i, none⟩ := by
    rintro rfl
    rw [hcell i hi] at hp
    injection hp with hp
    exact hx _ _ hp.symm
  exact (World.cell?_setCell_other _ _ _ _ hne).trans (hcell i hi)

/-- Both fields of a fresh box written: a slice stays, and nothing old is touched. -/
theorem Sl.box {w : World} {g : Nat} {v u u' : Value} {b : Bool} {s : Option Addr} {m c : Nat} {xs : List Nat} (h : Sl w v xs) (h0 : w.cell? ⟨g, 0, none⟩ = some (.bool b)) (h1 : w.cell? ⟨g, 1, none⟩ = some (.slice s m c)) :
    Sl ((w.setCell ⟨g, 0, none⟩ u).setCell ⟨g, 1, none⟩ u') v xs := by
  have hne : (⟨g, 0, none⟩ : Addr) ≠ ⟨g, 1, none⟩ := by simp
  exact (h.poke h0 (by simp)).poke ((World.cell?_setCell_other _ _ _ _ hne).trans h1) (by simp)
theorem below_box {w0 w : World} {g : Nat} {u u' : Value} (h : Below w0.heap.size w0 w) (hg : w0.heap.size ≤ g) : Below w0.heap.size w0 ((w.setCell ⟨g, 0, none⟩ u).setCell ⟨g, 1, none⟩ u') := (h.setCell hg _).setCell hg _
end Go.Proofs.Ytfkjhaniglmejaa
