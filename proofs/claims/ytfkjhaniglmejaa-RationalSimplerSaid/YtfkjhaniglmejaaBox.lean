/- Boxes: blocks of a call's own whose cells are known; and what keeps slices of limbs readable. No program in sight. -/
import Derived.Test.YtfkjhaniglmejaaMem
import Derived.OneCell
namespace Go.Proofs.Ytfkjhaniglmejaa
open Go.RowKit Nt

/-- Block g holds the cells cs and may be written. -/
def Box (w : World) (g : Nat) (t : TypeId) (cs : Array Value) : Prop := w.heap[g]? = some (.cells cs t (0, 0))

theorem Box.lt {w : World} {g : Nat} {t : TypeId} {cs : Array Value} (h : Box w g t cs) : g < w.heap.size := lt_of_block h
theorem Box.new (w : World) (t : TypeId) (cs : Array Value) : Box (w.alloc (.cells cs t)) w.heap.size t cs :=
  heap_alloc_new w _
theorem Box.newAt (w : World) (t : TypeId) (cs : Array Value) {n : Nat} (hn : n = w.heap.size) : Box (w.alloc (.cells cs t)) n t cs := by subst hn; exact Box.new _ _ _
theorem Box.alloc {w : World} {g : Nat} {t : TypeId} {cs : Array Value} (h : Box w g t cs) (o : Obj) : Box (w.alloc o) g t cs :=
  (Below.heap_alloc w o g h.lt).trans h
theorem Box.drew {w : World} {g : Nat} {t : TypeId} {cs : Array Value} (h : Box w g t cs) : Box w.drew g t cs := h
theorem Box.below {w w' : World} {g B : Nat} {t : TypeId} {cs : Array Value} (h : Box w g t cs) (hb : Below B w w') (hg : g < B) : Box w' g t cs := (hb.block g hg).trans h
theorem Box.call {w w' : World} {g : Nat} {t : TypeId} {cs : Array Value} (h : Box w g t cs) (hb : Below w.heap.size w w') : Box w' g t cs := h.below hb h.lt
theorem Box.cell {w : World} {g : Nat} {t : TypeId} {cs : Array Value} (h : Box w g t cs) (i : Nat) {v : Value} (hv : cs[i]? = some v) : w.cell? ⟨g, i, none⟩ = some v := by
  unfold Box at h; simp [World.cell?, h, hv]
theorem Box.free {w : World} {g : Nat} {t : TypeId} {cs : Array Value} (h : Box w g t cs) (i : Nat) : w.frozen? ⟨g, i, none⟩ = false := by
  unfold Box at h; simp [World.frozen?, h]
theorem Box.other {w : World} {g b i : Nat} {t : TypeId} {cs : Array Value} {u : Value} (h : Box w g t cs) (hne : g ≠ b) : Box (w.setCell ⟨b, i, none⟩ u) g t cs :=
  (Below.heap_setCell w _ _ g hne).trans h
theorem Box.set {w : World} {g i : Nat} {t : TypeId} {cs : Array Value} {u : Value} (h : Box w g t cs) : Box (w.setCell ⟨g, i, none⟩ u) g t (cs.setIfInBounds i u) := by
  have hlt := h.lt
  have h' : w.heap[g] = .cells cs t (0, 0) := by unfold Box at h; simpa [Array.getElem?_eq_getElem hlt] using h
  show (w.heap.modify g _)[g]? = _
  rw [Array.getElem?_eq_getElem (by simpa using hlt), Array.getElem_modify_self, h']
  rfl
theorem Box.set1 {w : World} {g : Nat} {t : TypeId} {x x' : Value} (h : Box w g t #[x]) : Box (w.setCell ⟨g, 0, none⟩ x') g t #[x'] := h.set
theorem Box.set2 {w : World} {g : Nat} {t : TypeId} {x y x' y' : Value} (h : Box w g t #[x, y]) : Box ((w.setCell ⟨g, 0, none⟩ x').setCell ⟨g, 1, none⟩ y') g t #[x', y'] := (h.set (i := 0)).set (i := 1)
theorem Box.set3 {w : World} {g : Nat} {t : TypeId} {x y z x' y' z' : Value} (h : Box w g t #[x, y, z]) : Box (((w.setCell ⟨g, 0, none⟩ x').setCell ⟨g, 1, none⟩ y').setCell ⟨g, 2, none⟩ z') g t #[x', y', z'] := ((h.set (i := 0)).set (i := 1)).set (i := 2)
theorem Box.far2 {w : World} {g b : Nat} {t : TypeId} {cs : Array Value} {x y : Value} (h : Box w g t cs) (hne : g ≠ b) : Box ((w.setCell ⟨b, 0, none⟩ x).setCell ⟨b, 1, none⟩ y) g t cs := (h.other hne).other hne
theorem Box.far3 {w : World} {g b : Nat} {t : TypeId} {cs : Array Value} {x y z : Value} (h : Box w g t cs) (hne : g ≠ b) : Box (((w.setCell ⟨b, 0, none⟩ x).setCell ⟨b, 1, none⟩ y).setCell ⟨b, 2, none⟩ z) g t cs := ((h.other hne).other hne).other hne
theorem Box.c2 {w : World} {g : Nat} {t : TypeId} {x y : Value} (h : Box w g t #[x, y]) : w.cell? ⟨g, 0, none⟩ = some x ∧ w.cell? ⟨g, 1, none⟩ = some y ∧ w.frozen? ⟨g, 0, none⟩ = false ∧ w.frozen? ⟨g, 1, none⟩ = false :=
  ⟨h.cell 0 rfl, h.cell 1 rfl, h.free 0, h.free 1⟩
theorem Box.c3 {w : World} {g : Nat} {t : TypeId} {x y z : Value} (h : Box w g t #[x, y, z]) :
    w.cell? ⟨g, 0, none⟩ = some x ∧ w.cell? ⟨g, 1, none⟩ = some y ∧ w.cell? ⟨g, 2, none⟩ = some z ∧ w.frozen? ⟨g, 0, none⟩ = false ∧ w.frozen? ⟨g, 1, none⟩ = false ∧ w.frozen? ⟨g, 2, none⟩ = false :=
  ⟨h.cell 0 rfl, h.cell 1 rfl, h.cell 2 rfl, h.free 0, h.free 1, h.free 2⟩

/-- Slices of limbs read on. -/
def Keep (w w' : World) : Prop := ∀ v xs, Sl w v xs → Sl w' v xs
theorem Keep.refl (w : World) : Keep w w := fun _ _ h => h
theorem Keep.trans {a b c : World} (h : Keep a b) (k : Keep b c) : Keep a c := fun v xs s => k v xs (h v xs s)
theorem Keep.call {w w' : World} (hb : Below w.heap.size w w') : Keep w w' := fun _ _ h => h.below hb
theorem Keep.alloc (w : World) (o : Obj) : Keep w (w.alloc o) := Keep.call ((Below.refl _ _).alloc (Nat.le_refl _) o)
theorem Keep.drew (w : World) : Keep w w.drew := fun _ _ h => h.drew
/-- A cell written that holds no number. -/
theorem Keep.poke {w : World} {p : Addr} {x u : Value} (hp : w.cell? p = some x) (hx : ∀ k n, x ≠ .int k n) : Keep w (w.setCell p u) := by
  rintro v xs ⟨ad, n, cap, hv, hl, hc, hm, hlm, hs⟩
  refine ⟨ad, n, cap, hv, hl, hc, hm, hlm, fun h0 => ?_⟩
  obtain ⟨b, off, ha, hbs, hcell⟩ := hs h0
  refine ⟨b, off, ha, by simpa using hbs, fun i hi => ?_⟩
  have hne : p ≠ ⟨b, off + i, none⟩ := by
    rintro rfl
    rw [hcell i hi] at hp
    injection hp with hp
    exact hx _ _ hp.symm
  exact (World.cell?_setCell_other _ _ _ _ hne).trans (hcell i hi)
theorem Sl.keep {w w' : World} {v : Value} {xs : List Nat} (h : Sl w v xs) (k : Keep w w') : Sl w' v xs := k _ _ h
/-- A value that is no number. -/
def NoInt (v : Value) : Prop := ∀ k n, v ≠ .int k n
theorem NoInt.bool (b : Bool) : NoInt (.bool b) := fun _ _ h => by cases h
theorem NoInt.slice (a : Option Addr) (n c : Nat) : NoInt (.slice a n c) := fun _ _ h => by cases h
theorem Sl.noInt {w : World} {v : Value} {xs : List Nat} (h : Sl w v xs) : NoInt v := by
  obtain ⟨ad, n, cap, rfl, _⟩ := h; exact NoInt.slice _ _ _
theorem Keep.set2 {w : World} {g : Nat} {t : TypeId} {x y x' y' : Value} (h : Box w g t #[x, y]) (hx : NoInt x) (hy : NoInt y) : Keep w ((w.setCell ⟨g, 0, none⟩ x').setCell ⟨g, 1, none⟩ y') :=
  (Keep.poke h.c2.1 hx).trans (Keep.poke ((h.set (i := 0) (u := x')).cell 1 rfl) hy)
theorem Keep.set3 {w : World} {g : Nat} {t : TypeId} {x y z x' y' z' : Value} (h : Box w g t #[x, y, z]) (hx : NoInt x) (hy : NoInt y) (hz : NoInt z) :
    Keep w (((w.setCell ⟨g, 0, none⟩ x').setCell ⟨g, 1, none⟩ y').setCell ⟨g, 2, none⟩ z') :=
  ((Keep.poke h.c3.1 hx).trans (Keep.poke ((h.set (i := 0) (u := x')).cell 1 rfl) hy)).trans (Keep.poke (((h.set (i := 0) (u := x')).set (i := 1) (u := y')).cell 2 rfl) hz)
theorem below_set2 {B : Nat} {w0 w : World} {g : Nat} {u u' : Value} (h : Below B w0 w) (hg : B ≤ g) : Below B w0 ((w.setCell ⟨g, 0, none⟩ u).setCell ⟨g, 1, none⟩ u') := (h.setCell hg _).setCell hg _
theorem below_set3 {B : Nat} {w0 w : World} {g : Nat} {u u' u'' : Value} (h : Below B w0 w) (hg : B ≤ g) : Below B w0 (((w.setCell ⟨g, 0, none⟩ u).setCell ⟨g, 1, none⟩ u').setCell ⟨g, 2, none⟩ u'') := ((h.setCell hg _).setCell hg _).setCell hg _
theorem below_call {w0 W W' : World} (h : Below w0.heap.size w0 W) (hb : Below W.heap.size W W') : Below w0.heap.size w0 W' := h.trans (hb.mono h.size)
end Go.Proofs.Ytfkjhaniglmejaa
