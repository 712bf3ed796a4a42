/- Texts Box Float Int0 IntA IntB IntC, in this order. -/
import Derived.Test.YtikglhmabidjoaaGreatDoorBa
import Derived.OneCell
import Derived.Test.YtikglhmabidjoaaGreatDoorBc
import Derived.Deep.RegionHeld3
import Derived.Test.YtikglhmabidjoaaGreatDoorBe
import Derived.Deep.MidRow
namespace Go.Proofs.YtikglhmabidjoaaGreatDoor
open Go.RowKit Nt
def Box (w : World) (g : Nat) (t : TypeId) (cs : Array Value) : Prop := w.heap[g]? = some (.cells cs t (0, 0))
theorem Box.lt {w : World} {g : Nat} {t : TypeId} {cs : Array Value} (h : Box w g t cs) : g < w.heap.size := lt_of_block h
theorem Box.new (w : World) (t : TypeId) (cs : Array Value) : Box (w.alloc (.cells cs t)) w.heap.size t cs :=
  heap_alloc_new w _
theorem Box.newAt (w : World) (t : TypeId) (cs : Array Value) {n : Nat} (hn : n = w.heap.size) : Box (w.alloc (.cells cs t)) n t cs := by subst hn; exact Box.new _ _ _
theorem Box.alloc {w : World} {g : Nat} {t : TypeId} {cs : Array Value} (h : Box w g t cs) (o : Obj) : Box (w.alloc o) g t cs :=
  (Below.heap_alloc w o g h.lt).trans h
theorem Box.drew {w : World} {g : Nat} {t : TypeId} {cs : Array Value} (h : Box w g t cs) : Box w.drew g t cs := h
theorem Box.below {w w' : World} {g B : Nat} {t : TypeId} {cs : Array Value} (h : Box w g t cs) (hb : Below B w w') (hg : g < B) : Box w' g t cs := (hb.block g hg).trans h
theorem Box.call {w w' : World} {g : Nat} {t : TypeId} {cs : Array Value} (h : Box w g t cs) (hb : Below w.heap.size w w') : Box w' g t cs := h.below hb h.lt
theorem Box.cell {w : World} {g : Nat} {t : TypeId} {cs : Array Value} (h : Box w g t cs) (i : Nat) {v : Value} (hv : cs[i]? = some v) : w.cell? ⟨g, i, none⟩ = some v := by
  unfold Box at h; simp [World.cell?, h, hv]
theorem Box.free {w : World} {g : Nat} {t : TypeId} {cs : Array Value} (h : Box w g t cs) (i : Nat) : w.frozen? ⟨g, i, none⟩ = false := by
  unfold Box at h; simp [World.frozen?, h]
theorem Box.other {w : World} {g b i : Nat} {t : TypeId} {cs : Array Value} {u : Value} (h : Box w g t cs) (hne : g ≠ b) : Box (w.setCell ⟨b, i, none⟩ u) g t cs :=
  (Below.heap_setCell w _ _ g hne).trans h
theorem Box.set {w : World} {g i : Nat} {t : TypeId} {cs : Array Value} {u : Value} (h : Box w g t cs) : Box (w.setCell ⟨g, i, none⟩ u) g t (cs.setIfInBounds i u) := by
  have hlt := h.lt
  have h' : w.heap[g] = .cells cs t (0, 0) := by unfold Box at h; simpa [Array.getElem?_eq_getElem hlt] using h
  show (w.heap.modify g _)[g]? = _
  rw [Array.getElem?_eq_getElem (by simpa using hlt), Array.getElem_modify_self, h']
  rfl
theorem Box.set2 {w : World} {g : Nat} {t : TypeId} {x y x' y' : Value} (h : Box w g t #[x, y]) : Box ((w.setCell ⟨g, 0, none⟩ x').setCell ⟨g, 1, none⟩ y') g t #[x', y'] := (h.set (i := 0)).set (i := 1)
theorem Box.set3 {w : World} {g : Nat} {t : TypeId} {x y z x' y' z' : Value} (h : Box w g t #[x, y, z]) : Box (((w.setCell ⟨g, 0, none⟩ x').setCell ⟨g, 1, none⟩ y').setCell ⟨g, 2, none⟩ z') g t #[x', y', z'] := ((h.set (i := 0)).set (i := 1)).set (i := 2)
theorem Box.far2 {w : World} {g b : Nat} {t : TypeId} {cs : Array Value} {x y : Value} (h : Box w g t cs) (hne : g ≠ b) : Box ((w.setCell ⟨b, 0, none⟩ x).setCell ⟨b, 1, none⟩ y) g t cs := (h.other hne).other hne
theorem Box.far3 {w : World} {g b : Nat} {t : TypeId} {cs : Array Value} {x y z : Value} (h : Box w g t cs) (hne : g ≠ b) : Box (((w.setCell ⟨b, 0, none⟩ x).setCell ⟨b, 1, none⟩ y).setCell ⟨b, 2, none⟩ z) g t cs := ((h.other hne).other hne).other hne
theorem Box.c2 {w : World} {g : Nat} {t : TypeId} {x y : Value} (h : Box w g t #[x, y]) : w.cell? ⟨g, 0, none⟩ = some x ∧ w.cell? ⟨g, 1, none⟩ = some y ∧ w.frozen? ⟨g, 0, none⟩ = false ∧ w.frozen? ⟨g, 1, none⟩ = false :=
  ⟨h.cell 0 rfl, h.cell 1 rfl, h.free 0, h.free 1⟩
theorem Box.c3 {w : World} {g : Nat} {t : TypeId} {x y z : Value} (h : Box w g t #[x, y, z]) :
    w.cell? ⟨g, 0, none⟩ = some x ∧ w.cell? ⟨g, 1, none⟩ = some y ∧ w.cell? ⟨g, 2, none⟩ = some z ∧ w.frozen? ⟨g, 0, none⟩ = false ∧ w.frozen? ⟨g, 1, none⟩ = false ∧ w.frozen? ⟨g, 2, none⟩ = false :=
  ⟨h.cell 0 rfl, h.cell 1 rfl, h.cell 2 rfl, h.free 0, h.free 1, h.free 2⟩
def Keep (w w' : World) : Prop := ∀ v xs, Sl w v xs → Sl w' v xs
theorem Keep.refl (w : World) : Keep w w := fun _ _ h => h
theorem Keep.trans {a b c : World} (h : Keep a b) (k : Keep b c) : Keep a c := fun v xs s => k v xs (h v xs s)
theorem Keep.call {w w' : World} (hb : Below w.heap.size w w') : Keep w w' := fun _ _ h => h.below hb
theorem Keep.alloc (w : World) (o : Obj) : Keep w (w.alloc o) := Keep.call ((Below.refl _ _).alloc (Nat.le_refl _) o)
theorem Keep.drew (w : World) : Keep w w.drew := fun _ _ h => h.drew
theorem Keep.poke {w : World} {p : Addr} {x u : Value} (hp : w.cell? p = some x) (hx : ∀ k n, x ≠ .int k n) : Keep w (w.setCell p u) := by
  rintro v xs ⟨ad, n, cap, hv, hl, hc, hm, hlm, hs⟩
  refine ⟨ad, n, cap, hv, hl, hc, hm, hlm, fun h0 => ?_⟩
  obtain ⟨b, off, ha, hbs, hcell⟩ := hs h0
  refine ⟨b, off, ha, by simpa using hbs, fun i hi => ?_⟩
  have hne : p ≠ ⟨b, off + i, none⟩ := by
    rintro rfl
    rw [hcell i hi] at hp
    injection hp with hp
    exact hx _ _ hp.symm
  exact (World.cell?_setCell_other _ _ _ _ hne).trans (hcell i hi)
theorem Sl.keep {w w' : World} {v : Value} {xs : List Nat} (h : Sl w v xs) (k : Keep w w') : Sl w' v xs := k _ _ h
def NoInt (v : Value) : Prop := ∀ k n, v ≠ .int k n
theorem NoInt.bool (b : Bool) : NoInt (.bool b) := fun _ _ h => by cases h
theorem NoInt.slice (a : Option Addr) (n c : Nat) : NoInt (.slice a n c) := fun _ _ h => by cases h
theorem Sl.noInt {w : World} {v : Value} {xs : List Nat} (h : Sl w v xs) : NoInt v := by
  obtain ⟨ad, n, cap, rfl, _⟩ := h; exact NoInt.slice _ _ _
theorem Keep.set2 {w : World} {g : Nat} {t : TypeId} {x y x' y' : Value} (h : Box w g t #[x, y]) (hx : NoInt x) (hy : NoInt y) : Keep w ((w.setCell ⟨g, 0, none⟩ x').setCell ⟨g, 1, none⟩ y') :=
  (Keep.poke h.c2.1 hx).trans (Keep.poke ((h.set (i := 0) (u := x')).cell 1 rfl) hy)
theorem Keep.set3 {w : World} {g : Nat} {t : TypeId} {x y z x' y' z' : Value} (h : Box w g t #[x, y, z]) (hx : NoInt x) (hy : NoInt y) (hz : NoInt z) :
    Keep w (((w.setCell ⟨g, 0, none⟩ x').setCell ⟨g, 1, none⟩ y').setCell ⟨g, 2, none⟩ z') :=
  ((Keep.poke h.c3.1 hx).trans (Keep.poke ((h.set (i := 0) (u := x')).cell 1 rfl) hy)).trans (Keep.poke (((h.set (i := 0) (u := x')).set (i := 1) (u := y')).cell 2 rfl) hz)
theorem below_set2 {B : Nat} {w0 w : World} {g : Nat} {u u' : Value} (h : Below B w0 w) (hg : B ≤ g) : Below B w0 ((w.setCell ⟨g, 0, none⟩ u).setCell ⟨g, 1, none⟩ u') := (h.setCell hg _).setCell hg _
theorem below_set3 {B : Nat} {w0 w : World} {g : Nat} {u u' u'' : Value} (h : Below B w0 w) (hg : B ≤ g) : Below B w0 (((w.setCell ⟨g, 0, none⟩ u).setCell ⟨g, 1, none⟩ u').setCell ⟨g, 2, none⟩ u'') := ((h.setCell hg _).setCell hg _).setCell hg _
theorem below_call {w0 W W' : World} (h : Below w0.heap.size w0 W) (hb : Below W.heap.size W W') : Below w0.heap.size w0 W' := h.trans (hb.mono h.size)
end Go.Proofs.YtikglhmabidjoaaGreatDoor
namespace Go.Proofs.YtikglhmabidjoaaGreatDoor
open Go.RowKit Nt
set_option linter.unusedVariables false
section
variable {P : Program} {ops : Array Oper} {Q : Exit → Act → World → Prop} {md : Region.Mode}
def left (L : Array Bool) : Nat := L.toList.countP (fun b => !b)
theorem left_set {L : Array Bool} {i : Nat} (h : L[i]? = some false) : left (L.setIfInBounds i true) + 1 = left L := by
  obtain ⟨l⟩ := L
  simp only [left, List.setIfInBounds_toArray]
  simp only [List.getElem?_toArray] at h
  induction l generalizing i with
  | nil => simp at h
  | cons b l ih =>
    cases i with
    | zero => simp at h; subst h; simp
    | succ i => simp at h; have := ih h; simp only [List.set_cons_succ, List.countP_cons]; omega
theorem left_pos {L : Array Bool} {i : Nat} (h : L[i]? = some false) : left L ≠ 0 := by have := left_set h; omega
theorem left_new (n : Nat) : left (Array.replicate n false) = n := by
  simp only [left]
  rw [show (Array.replicate n false).toList = List.replicate n false by simp, List.countP_replicate]; simp
structure Fl where
  i : Nat
  d : Nat
  t : TypeId
  z : Array Value
structure Rel (F : List Fl) (B : Nat) (L : Array Bool) (a : Act) (L' : Array Bool) (a' : Act) (w : World) : Prop where
  size : a'.tmps.size = a.tmps.size
  defers : a'.defers = a.defers
  slot : ∀ d, (∀ f ∈ F, f.d ≠ d) → a'.tmps[d]? = a.tmps[d]?
  listed : ∀ j, (∀ f ∈ F, f.i ≠ j) → L'[j]? = L[j]?
  no : ∀ f ∈ F, L[f.i]? = some false
  yet : ∀ f ∈ F, L'[f.i]? = some false ∨ L'[f.i]? = some true
  made : ∀ f ∈ F, L'[f.i]? = some true → ∃ g, a'.tmps[f.d]? = some (.pointer (some ⟨g, 0, none⟩)) ∧ B ≤ g ∧ Box w g f.t f.z
  apart : ∀ f ∈ F, ∀ f' ∈ F, f.i ≠ f'.i → L'[f.i]? = some true → L'[f'.i]? = some true → a'.tmps[f.d]? ≠ a'.tmps[f'.d]?
structure Flok (P : Program) (ops : Array Oper) (md : Region.Mode) (F : List Fl) (n : Nat) : Prop where
  op : ∀ f ∈ F, ∃ o, ops[f.i]? = some o ∧ o.dst = some f.d ∧ o.guard = none ∧ (∀ e ∈ o.after, Region.binds md e = false) ∧
    ∀ (ρ : Operand → Value) (w : World), (execOp ρ o).run P w = .ok (.value (.pointer (some ⟨w.heap.size, 0, none⟩))) (w.alloc (.cells f.z f.t))
  inj : ∀ f ∈ F, ∀ f' ∈ F, f.i = f'.i → f = f'
  injd : ∀ f ∈ F, ∀ f' ∈ F, f.d = f'.d → f = f'
  slot : ∀ f ∈ F, f.d < n
def SE (W : World) (E : List Nat) (x : World) : Prop := W.heap.size ≤ x.heap.size ∧ ∀ k, k < W.heap.size → k ∉ E → x.heap[k]? = W.heap[k]?
theorem SE.of {W x : World} {E : List Nat} (h : Below W.heap.size W x) : SE W E x := ⟨h.size, fun k hk _ => h.block k hk⟩
theorem SE.grow {W x y : World} {E : List Nat} (h : SE W E x) (hb : Below x.heap.size x y) : SE W E y :=
  ⟨Nat.le_trans h.1 hb.size, fun k hk hE => (hb.block k (Nat.lt_of_lt_of_le hk h.1)).trans (h.2 k hk hE)⟩
theorem SE.store {W x : World} {E : List Nat} (h : SE W E x) {g i : Nat} {v : Value} (hg : g ∈ E ∨ W.heap.size ≤ g) : SE W E (x.setCell ⟨g, i, none⟩ v) :=
  ⟨by simpa using h.1, fun k hk hE => (Below.heap_setCell x _ _ k (fun e => hg.elim (fun h1 => hE (e ▸ h1)) (fun h1 => absurd hk (Nat.not_lt.2 (e ▸ h1))))).trans (h.2 k hk hE)⟩
theorem SE.store2 {W x : World} {E : List Nat} (h : SE W E x) {g : Nat} {u v : Value} (hg : g ∈ E ∨ W.heap.size ≤ g) : SE W E ((x.setCell ⟨g, 0, none⟩ u).setCell ⟨g, 1, none⟩ v) := (h.store hg).store hg
theorem SE.store3 {W x : World} {E : List Nat} (h : SE W E x) {g : Nat} {t u v : Value} (hg : g ∈ E ∨ W.heap.size ≤ g) : SE W E (((x.setCell ⟨g, 0, none⟩ t).setCell ⟨g, 1, none⟩ u).setCell ⟨g, 2, none⟩ v) := ((h.store hg).store hg).store hg
theorem Box.se {W x : World} {E : List Nat} {g : Nat} {t : TypeId} {cs : Array Value} (h : SE W E x) (X : Box W g t cs) (hn : g ∉ E) : Box x g t cs := (h.2 g X.lt hn).trans X
theorem notin0 {a : Nat} : a ∉ ([] : List Nat) := List.not_mem_nil
theorem notin1 {a b : Nat} (h : a ≠ b) : a ∉ [b] := fun k => h (List.mem_singleton.1 k)
theorem notin2 {a b c : Nat} (h : a ≠ b) (h' : a ≠ c) : a ∉ [b, c] := fun k => (List.mem_cons.1 k).elim h fun k => h' (List.mem_singleton.1 k)
theorem in1 {b : Nat} {p : Prop} : b ∈ [b] ∨ p := .inl List.mem_cons_self
theorem in21 {b c : Nat} {p : Prop} : b ∈ [b, c] ∨ p := .inl List.mem_cons_self
theorem in22 {b c : Nat} {p : Prop} : c ∈ [b, c] ∨ p := .inl (List.mem_cons_of_mem _ List.mem_cons_self)
def Good (P : Program) (md : Region.Mode) (ops : Array Oper) (Q : Exit → Act → World → Prop) (W : World) (E : List Nat) (F : List Fl) (L : Array Bool) (a : Act) (w : World) : Prop :=
  SE W E w → ∀ L' a' w', Below w.heap.size w w' → Rel F W.heap.size L a L' a' w' →
    wpAnyH P md ops Q (SE W E) (left L') L' a' w'
variable {W : World} {E : List Nat} {F : List Fl} {L : Array Bool} {a : Act} {w : World} {n : Nat}
theorem Rel.grow {L' : Array Bool} {a' : Act} {w w' : World} {B : Nat} (h : Rel F B L a L' a' w) (hb : Below w.heap.size w w') : Rel F B L a L' a' w' :=
  { h with made := fun f hf hl => let ⟨g, h1, h2, h3⟩ := h.made f hf hl; ⟨g, h1, h2, h3.call hb⟩ }
theorem Rel.alloc (ok : Flok P ops md F a.tmps.size) {B : Nat} {L' : Array Bool} {a' : Act} {w : World} (h : Rel F B L a L' a' w) (hB : B ≤ w.heap.size) {f : Fl} (hf : f ∈ F) (hl : L'[f.i]? = some false) :
    Rel F B L a (L'.setIfInBounds f.i true) (a'.put (some f.d) (.pointer (some ⟨w.heap.size, 0, none⟩))) (w.alloc (.cells f.z f.t)) := by
  have hlt : f.i < L'.size := (Array.getElem?_eq_some_iff.1 hl).1
  have hd : f.d < a'.tmps.size := by rw [h.size]; exact ok.slot f hf
  have old : ∀ f' ∈ F, f' ≠ f → (L'.setIfInBounds f.i true)[f'.i]? = L'[f'.i]? ∧ (a'.put (some f.d) (.pointer (some ⟨w.heap.size, 0, none⟩))).tmps[f'.d]? = a'.tmps[f'.d]? := by
    intro f' hf' hne
    refine ⟨Array.getElem?_setIfInBounds_ne fun e => hne (ok.inj f' hf' f hf e.symm), Array.getElem?_setIfInBounds_ne fun e => hne (ok.injd f' hf' f hf e.symm)⟩
  have self : (L'.setIfInBounds f.i true)[f.i]? = some true := by simp [hlt]
  have selfd : (a'.put (some f.d) (.pointer (some ⟨w.heap.size, 0, none⟩))).tmps[f.d]? = some (.pointer (some ⟨w.heap.size, 0, none⟩)) := by simp [Act.put, hd]
  have mk : ∀ f' ∈ F, (L'.setIfInBounds f.i true)[f'.i]? = some true → ∃ g, (a'.put (some f.d) (.pointer (some ⟨w.heap.size, 0, none⟩))).tmps[f'.d]? = some (.pointer (some ⟨g, 0, none⟩)) ∧ B ≤ g ∧ Box (w.alloc (.cells f.z f.t)) g f'.t f'.z := by
    intro f' hf' hl'
    by_cases e : f' = f
    · subst e; exact ⟨_, selfd, hB, Box.new _ _ _⟩
    · obtain ⟨h1, h2⟩ := old f' hf' e
      rw [h1] at hl'
      obtain ⟨g, k1, k2, k3⟩ := h.made f' hf' hl'
      exact ⟨g, by rw [h2]; exact k1, k2, k3.alloc _⟩
  refine ⟨by simp [Act.put, h.size], h.defers, ?_, ?_, h.no, ?_, mk, ?_⟩
  · intro d hnd
    rw [← h.slot d hnd]
    exact Array.getElem?_setIfInBounds_ne (hnd f hf)
  · intro j hj
    rw [← h.listed j hj]
    exact Array.getElem?_setIfInBounds_ne (hj f hf)
  · intro f' hf'
    by_cases e : f' = f
    · subst e; exact .inr self
    · rw [(old f' hf' e).1]; exact h.yet f' hf'
  · intro f1 hf1 f2 hf2 hne l1 l2 he
    by_cases e1 : f1 = f
    · subst e1
      have e2 : f2 ≠ f1 := fun e => hne (by rw [e])
      obtain ⟨h1, h2⟩ := old f2 hf2 e2
      rw [h1] at l2
      obtain ⟨g, k1, k2, k3⟩ := h.made f2 hf2 l2
      rw [selfd, h2, k1] at he
      injection he with he; injection he with he; injection he with he; injection he with he
      have := k3.lt
      omega
    · by_cases e2 : f2 = f
      · subst e2
        obtain ⟨h1, h2⟩ := old f1 hf1 e1
        rw [h1] at l1
        obtain ⟨g, k1, k2, k3⟩ := h.made f1 hf1 l1
        rw [selfd, h2, k1] at he
        injection he with he; injection he with he; injection he with he; injection he with he
        have := k3.lt
        omega
      · obtain ⟨h1, h1'⟩ := old f1 hf1 e1
        obtain ⟨h2, h2'⟩ := old f2 hf2 e2
        rw [h1] at l1; rw [h2] at l2; rw [h1', h2'] at he
        exact h.apart f1 hf1 f2 hf2 hne l1 l2 he
theorem getD_of {L : Array Bool} {j : Nat} {b : Bool} (h : L[j]? = some b) (d : Bool) : L.getD j d = b := by
  simp [Array.getD_eq_getD_getElem?, h]
theorem Rel.ready {B : Nat} {L' : Array Bool} {a' : Act} {w : World} (h : Rel F B L a L' a' w) {i : Nat} (hi : i ∈ Region.ready md ops L) (hn : ∀ f ∈ F, f.i ≠ i) : i ∈ Region.ready md ops L' := by
  rw [mem_ready] at *
  obtain ⟨h0, o, ho, hall⟩ := hi
  refine ⟨by rw [← h0]; simp only [Array.getD_eq_getD_getElem?, h.listed i hn], o, ho, fun e he hb => ?_⟩
  have h1 := hall e he hb
  by_cases hf : ∃ f ∈ F, f.i = e.on
  · obtain ⟨f, hf, e1⟩ := hf
    rw [← e1, getD_of (h.no f hf)] at h1; cases h1
  · rw [← h1]; simp only [Array.getD_eq_getD_getElem?]; rw [h.listed e.on fun f hg e1 => hf ⟨f, hg, e1⟩]
theorem float_core (ok : Flok P ops md F a.tmps.size)
    (hfull : ∀ L' a' w', Below w.heap.size w w' → Rel F W.heap.size L a L' a' w' → (∀ f ∈ F, L'[f.i]? = some true) → wpAnyH P md ops Q (SE W E) (left L') L' a' w')
    (hpart : ∀ L' a' w', Below w.heap.size w w' → Rel F W.heap.size L a L' a' w' → ∀ i ∈ Region.ready md ops L', (∀ f ∈ F, f.i ≠ i) → (∃ f ∈ F, L'[f.i]? = some false) →
      wpOp P ops Q i (fun a1 w1 => SE W E w1 ∧ wpAnyH P md ops Q (SE W E) (left L' - 1) (L'.setIfInBounds i true) a1 w1) a' w') : Good P md ops Q W E F L a w := by
  intro hW L' a' w' hb hr
  generalize hn : left L' = n
  induction n generalizing L' a' w' with
  | zero =>
    have hall : ∀ f ∈ F, L'[f.i]? = some true := fun f hf => (hr.yet f hf).resolve_left fun h => left_pos h hn
    have := hfull L' a' w' hb hr hall
    rwa [hn] at this
  | succ n ih =>
    by_cases hp : ∃ f ∈ F, L'[f.i]? = some false
    · obtain ⟨f, hf, hl⟩ := hp
      have rdy : f.i ∈ Region.ready md ops L' := by
        obtain ⟨o, ho, _, _, haf, _⟩ := ok.op f hf
        exact mem_ready.2 ⟨getD_of hl _, o, ho, fun e he hb => absurd hb (by rw [haf e he]; simp)⟩
      refine ⟨fun h0 => (by rw [h0] at rdy; cases rdy), fun i hi => ?_⟩
      by_cases hif : ∃ f' ∈ F, f'.i = i
      · obtain ⟨f', hf', rfl⟩ := hif
        have hl' : L'[f'.i]? = some false := by
          rcases hr.yet f' hf' with h | h
          · exact h
          · have := (mem_ready.1 hi).1; rw [getD_of h] at this; cases this
        obtain ⟨o, ho, hd, hg, haf, hrun⟩ := ok.op f' hf'
        have hB : W.heap.size ≤ w'.heap.size := Nat.le_trans hW.1 hb.size
        have hb2 : Below w.heap.size w (w'.alloc (.cells f'.z f'.t)) := hb.alloc hb.size _
        have key := ih (L'.setIfInBounds f'.i true) (a'.put (some f'.d) (.pointer (some ⟨w'.heap.size, 0, none⟩))) (w'.alloc (.cells f'.z f'.t)) hb2 (hr.alloc ok hB hf' hl') (by have := left_set hl'; omega)
        have hS : SE W E (w'.alloc (.cells f'.z f'.t)) := hW.grow hb2
        unfold Go.wpOp
        simp only [ho]
        rw [if_pos (by simp [Region.wanted, hg])]
        refine .inl ?_
        simp only [Oper.wp, hrun, Oper.upon, hd]
        exact ⟨hS, key⟩
      · have h2 := hpart L' a' w' hb hr i hi (fun f hf e => hif ⟨f, hf, e⟩) ⟨f, hf, hl⟩
        rw [hn] at h2
        exact h2
    · have hall : ∀ f ∈ F, L'[f.i]? = some true := fun f hf => (hr.yet f hf).resolve_left fun h => hp ⟨f, hf, h⟩
      have := hfull L' a' w' hb hr hall
      rwa [hn] at this
def aloof (ops : Array Oper) (F : List Fl) (o : Oper) : Bool := F.all fun f => !(o.looksAt ops).contains f.d && o.dst != some f.d
theorem Rel.exec {B : Nat} {L' : Array Bool} {a' : Act} {w : World} (h : Rel F B L a L' a' w) {o : Oper} (ha : aloof ops F o = true) (hs : ∀ cs b, o.op ≠ .select cs b) : execOp a'.eval o = execOp a.eval o := by
  refine execOp_congr o hs fun x hx => ?_
  cases x with
  | tmp t =>
    have ht : ∀ f ∈ F, f.d ≠ t := by
      intro f hf e
      have := List.all_eq_true.1 ha f hf
      simp only [Bool.and_eq_true, Bool.not_eq_true', List.contains_eq_mem, decide_eq_false_iff_not] at this
      exact this.1 (List.mem_append_left _ (List.mem_filterMap.2 ⟨.tmp t, by simpa using hx, by rw [e]⟩))
    simp only [Act.eval, Array.getD_eq_getD_getElem?, h.slot t ht]
  | _ => rfl
theorem Rel.wanted {B : Nat} {L' : Array Bool} {a' : Act} {w : World} (h : Rel F B L a L' a' w) {o : Oper} (ha : aloof ops F o = true) : Region.wanted o (yielded ops a'.tmps) = Region.wanted o (yielded ops a.tmps) := by
  unfold Region.wanted
  cases hg : o.guard with
  | none => rfl
  | some gw =>
    obtain ⟨g, want⟩ := gw
    have hy : yielded ops a'.tmps g = yielded ops a.tmps g := by
      unfold yielded
      cases ht : (ops[g]?).bind (·.dst) with
      | none => rfl
      | some t =>
        have ht' : ∀ f ∈ F, f.d ≠ t := by
          intro f hf e
          have := List.all_eq_true.1 ha f hf
          simp only [Bool.and_eq_true, Bool.not_eq_true', List.contains_eq_mem, decide_eq_false_iff_not] at this
          exact this.1 (by subst e; simp [Oper.looksAt, hg, ht])
        simp only [Option.bind_some, h.slot t ht']
    simp only [hy]
theorem Rel.put {B : Nat} {L' : Array Bool} {a' : Act} {w : World} (h : Rel F B L a L' a' w) {o : Oper} (ha : aloof ops F o = true) {i : Nat} (hi : ∀ f ∈ F, f.i ≠ i) (v : Value) :
    Rel F B (L.setIfInBounds i true) (a.put o.dst v) (L'.setIfInBounds i true) (a'.put o.dst v) w := by
  have hd : ∀ f ∈ F, o.dst ≠ some f.d := by
    intro f hf
    have := List.all_eq_true.1 ha f hf
    simp only [Bool.and_eq_true, bne_iff_ne] at this
    exact this.2
  have hl : ∀ f ∈ F, ∀ L : Array Bool, (L.setIfInBounds i true)[f.i]? = L[f.i]? := fun f hf L => Array.getElem?_setIfInBounds_ne (Ne.symm (hi f hf))
  have hp : ∀ f ∈ F, (a'.put o.dst v).tmps[f.d]? = a'.tmps[f.d]? := by
    intro f hf
    cases hdo : o.dst with
    | none => rfl
    | some d => exact Array.getElem?_setIfInBounds_ne fun e => hd f hf (by rw [hdo, e])
  refine ⟨?_, ?_, ?_, ?_, fun f hf => by rw [hl f hf]; exact h.no f hf, fun f hf => by rw [hl f hf]; exact h.yet f hf, ?_, ?_⟩
  · cases o.dst <;> simp [Act.put, h.size]
  · cases o.dst <;> simp [Act.put, h.defers]
  · intro d hnd
    cases o.dst with
    | none => exact h.slot d hnd
    | some d' =>
      simp only [Act.put]
      by_cases e : d' = d
      · subst e; simp [Array.getElem?_setIfInBounds, h.size]
      · rw [Array.getElem?_setIfInBounds_ne e, Array.getElem?_setIfInBounds_ne e]; exact h.slot d hnd
  · intro j hj
    by_cases e : i = j
    · subst e
      have hs := h.listed i hj
      rcases Nat.lt_or_ge i L'.size with h1 | h1
      · have h2 : i < L.size := by
          rcases Nat.lt_or_ge i L.size with h2 | h2
          · exact h2
          · rw [Array.getElem?_eq_none h2, Array.getElem?_eq_getElem h1] at hs; cases hs
        simp [h1, h2]
      · have h2 : L.size ≤ i := by
          rcases Nat.lt_or_ge i L.size with h2 | h2
          · rw [Array.getElem?_eq_none h1, Array.getElem?_eq_getElem h2] at hs; cases hs
          · exact h2
        simp [h1, h2]
    · rw [Array.getElem?_setIfInBounds_ne e, Array.getElem?_setIfInBounds_ne e]; exact h.listed j hj
  · intro f hf hlf
    rw [hl f hf] at hlf
    rw [hp f hf]
    exact h.made f hf hlf
  · intro f hf f' hf' hne h1 h2
    rw [hl f hf] at h1; rw [hl f' hf'] at h2; rw [hp f hf, hp f' hf']
    exact h.apart f hf f' hf' hne h1 h2
theorem wp_region_float {id : Nat} {a : Act} {w : World} (E : List Nat) (F : List Fl) (hm : P.follows .mixedOrders = true) (hF : (F.all fun f => decide (f.i < ops.size)) = true)
    (n : Nat) (hsz : a.tmps.size = n) (ok : Flok P ops .any F n)
    (h : Flok P ops .any F n → Good P .any ops Q w.drew E F (Array.replicate ops.size false) a w.drew) : (Code.region id ops true).wp P Q a w := by
  replace h := h ok
  refine wp_region_held (S := SE w.drew E) hm ?_
  have hlt : ∀ f ∈ F, f.i < ops.size := fun f hf => by simpa using List.all_eq_true.1 hF f hf
  have := h (SE.of (Below.refl _ _)) (Array.replicate ops.size false) a w.drew (Below.refl _ _) ⟨rfl, rfl, fun _ _ => rfl, fun _ _ => rfl, fun f hf => by simp [hlt f hf], fun f hf => by simp [hlt f hf],
    fun f hf h1 => by simp [hlt f hf] at h1, fun f hf _ _ _ h1 => by simp [hlt f hf] at h1⟩
  rwa [left_new] at this
theorem good_pure (i : Nat) {oi : Oper} {v : Value} (hi : ops[i]? = some oi) (hs : Region.noSelect ops = true) (ha : aloof ops F oi = true) (hn : (F.all fun f => f.i != i) = true)
    (hf : Region.free md ops L i = true) (hr : (Region.ready md ops L).contains i = true) (hl : (L[i]? == some false) = true)
    (hQ : ∀ c a w, Q (.panic c) (a.put oi.dst v) w → Q (.panic c) a w)
    (hy : YieldsIf P ops (SE W E) oi v a)
    (h : Good P md ops Q W E F (L.setIfInBounds i true) (a.put oi.dst v) w) : Good P md ops Q W E F L a w := by
  intro hW L' a' w' hb hrel
  have hni : ∀ f ∈ F, f.i ≠ i := fun f hf => by simpa using List.all_eq_true.1 hn f hf
  have hsel : ∀ cs b, oi.op ≠ .select cs b := fun cs b => Region.noSelect_spec hs i oi cs b hi
  have hl' : L'[i]? = some false := by rw [hrel.listed i hni]; simpa using hl
  have hS : SE W E w' := hW.grow hb
  have key := h hW (L'.setIfInBounds i true) (a'.put oi.dst v) w' hb (hrel.put ha hni v)
  rw [show left L' = left (L'.setIfInBounds i true) + 1 from (left_set hl').symm]
  refine wpAnyH_first hi (Region.noSelect_spec hs) hQ _ _ _ _ ?_ (hrel.ready (by simpa using hr) hni) (hy.of_same (hrel.exec ha hsel) (hrel.wanted ha)) hS key
  intro j oj hj hji hun hno
  refine Region.free_spec hi hf j oj hj hji ?_ hno
  by_cases hjf : ∃ f ∈ F, f.i = j
  · obtain ⟨f, hf, rfl⟩ := hjf; exact getD_of (hrel.no f hf) _
  · rw [← hun]; simp only [Array.getD_eq_getD_getElem?]; rw [hrel.listed j fun f hf e => hjf ⟨f, hf, e⟩]
def allOn (F : List Fl) (L : Array Bool) : Array Bool := F.foldl (fun L f => L.setIfInBounds f.i true) L
theorem allOn_other {F : List Fl} {j : Nat} (h : ∀ f ∈ F, f.i ≠ j) : ∀ L : Array Bool, (allOn F L)[j]? = L[j]? := by
  induction F with
  | nil => intro L; rfl
  | cons f F ih =>
    intro L
    have := ih (fun g hg => h g (List.mem_cons_of_mem _ hg)) (L.setIfInBounds f.i true)
    rw [show allOn (f :: F) L = allOn F (L.setIfInBounds f.i true) from rfl, this]
    exact Array.getElem?_setIfInBounds_ne (h f List.mem_cons_self)
theorem allOn_mem {F : List Fl} {f : Fl} (hf : f ∈ F) : ∀ L : Array Bool, f.i < L.size → (allOn F L)[f.i]? = some true := by
  induction F with
  | nil => cases hf
  | cons g F ih =>
    intro L hlt
    rw [show allOn (g :: F) L = allOn F (L.setIfInBounds g.i true) from rfl]
    by_cases hm : ∃ f' ∈ F, f'.i = f.i
    · obtain ⟨f', hf', e⟩ := hm
      have : ∀ (F' : List Fl) (L : Array Bool), f'.i < L.size → f' ∈ F' → (allOn F' L)[f'.i]? = some true := by
        intro F'
        induction F' with
        | nil => intro _ _ h; cases h
        | cons g' F' ih' =>
          intro L hlt hm
          rw [show allOn (g' :: F') L = allOn F' (L.setIfInBounds g'.i true) from rfl]
          by_cases hin : ∃ f'' ∈ F', f''.i = f'.i
          · rcases List.mem_cons.1 hm with rfl | hm'
            · obtain ⟨f'', h2, e2⟩ := hin
              clear ih' hm hf' ih
              have gen : ∀ (F3 : List Fl) (L : Array Bool), L[f'.i]? = some true → (allOn F3 L)[f'.i]? = some true := by
                intro F3
                induction F3 with
                | nil => intro L h; exact h
                | cons g3 F3 ih3 =>
                  intro L h
                  refine ih3 (L.setIfInBounds g3.i true) ?_
                  by_cases e3 : g3.i = f'.i
                  · rw [e3]; simp [(Array.getElem?_eq_some_iff.1 h).1]
                  · rw [Array.getElem?_setIfInBounds_ne e3]; exact h
              exact gen F' _ (by simp [hlt])
            · exact ih' _ (by simpa using hlt) hm'
          · rw [allOn_other fun f'' h2 e2 => hin ⟨f'', h2, e2⟩]
            rcases List.mem_cons.1 hm with rfl | hm'
            · simp [hlt]
            · exact absurd ⟨f', hm', rfl⟩ hin
      rw [← e]
      exact this F _ (by rw [e]; simpa using hlt) hf'
    · rcases List.mem_cons.1 hf with rfl | hf'
      · rw [allOn_other fun f' h2 e2 => hm ⟨f', h2, e2⟩]; simp [hlt]
      · exact absurd ⟨f, hf', rfl⟩ hm
theorem Rel.readyOn {B : Nat} {L' : Array Bool} {a' : Act} {w : World} (h : Rel F B L a L' a' w) {i : Nat} (hi : i ∈ Region.ready md ops L') (hn : ∀ f ∈ F, f.i ≠ i) : i ∈ Region.ready md ops (allOn F L) := by
  rw [mem_ready] at *
  obtain ⟨h0, o, ho, hall⟩ := hi
  refine ⟨by rw [← h0]; simp only [Array.getD_eq_getD_getElem?]; rw [allOn_other hn, h.listed i hn], o, ho, fun e he hb => ?_⟩
  have h1 := hall e he hb
  by_cases hf : ∃ f ∈ F, f.i = e.on
  · obtain ⟨f, hf, e1⟩ := hf
    rw [← e1]; exact getD_of (allOn_mem hf _ (Array.getElem?_eq_some_iff.1 (h.no f hf)).1) _
  · rw [← h1]; simp only [Array.getD_eq_getD_getElem?]; rw [allOn_other (fun f hg e1 => hf ⟨f, hg, e1⟩), h.listed e.on fun f hg e1 => hf ⟨f, hg, e1⟩]
theorem good_call (i f : Nat) {oi : Oper} {x : Array Operand} {tys : Array TypeId} {args : Array Value} (hi : ops[i]? = some oi) (hop : oi.op = Op.call { callee := Callee.value (Operand.func f), args := x, argTypes := tys })
    (ok : Flok P ops md F a.tmps.size) (ha : aloof ops F oi = true) (hn : (F.all fun f => f.i != i) = true)
    (hr : (Region.ready md ops L).contains i = true) (hl : (L[i]? == some false) = true) (hone : Region.ready md ops (allOn F L) = [i])
    (hw : Region.wanted oi (yielded ops a.tmps) = true)
    {fn : Func} {c : Code} (hf : P.funcs[f]? = some fn) (hname : (fn.name == "runtime.NumGoroutine") = false) (hb : fn.body = some c)
    (hargs : x.map a.eval = args)
    (hc : ∀ w', Below w.heap.size w w' → Calls P f args w' (Ret w' fun w2 v => Good P md ops Q W E F (L.setIfInBounds i true) (a.put oi.dst v) w2)) : Good P md ops Q W E F L a w := by
  intro hW
  have hni : ∀ f ∈ F, f.i ≠ i := fun f hf => by simpa using List.all_eq_true.1 hn f hf
  have hl0 : L[i]? = some false := by simpa using hl
  have step : ∀ L' a' w', Below w.heap.size w w' → Rel F W.heap.size L a L' a' w' →
      wpOp P ops Q i (fun a1 w1 => SE W E w1 ∧ wpAnyH P md ops Q (SE W E) (left L' - 1) (L'.setIfInBounds i true) a1 w1) a' w' := by
    intro L' a' w' hbw hrel
    have hl' : L'[i]? = some false := by rw [hrel.listed i hni]; exact hl0
    have hex := hrel.exec ha (fun cs b => by rw [hop]; intro h; cases h)
    unfold Go.wpOp
    simp only [hi]
    rw [if_pos ((hrel.wanted ha).trans hw)]
    refine .inl ?_
    have key : oi.upon P a' (fun a1 w1 => SE W E w1 ∧ wpAnyH P md ops Q (SE W E) (left L' - 1) (L'.setIfInBounds i true) a1 w1) Q (.ok (.enter f args) w') := by
      rw [Oper.upon_enter]
      refine (hc w' hbw).mono ?_
      rintro e w2 ⟨v, rfl, h1, h2⟩
      have hW2 : SE W E w2 := (hW.grow hbw).grow h2
      refine ⟨hW2, ?_⟩
      have := h1 hW2 (L'.setIfInBounds i true) (a'.put oi.dst v) w2 (Below.refl _ _) ((hrel.grow h2).put ha hni v)
      rwa [show left (L'.setIfInBounds i true) = left L' - 1 by have := left_set hl'; omega] at this
    unfold Oper.wp
    have e : (execOp a'.eval oi).run P w' = .ok (.enter f args) w' := by
      rw [hex]
      obtain ⟨dst, op, ty, pos, after, guard⟩ := oi
      dsimp only at hop
      subst hop
      rw [execOp_call_go, hargs]
      simpa using run_enter hf hname hb args w'
    rw [e]
    exact key
  refine float_core ok ?_ ?_ hW
  · intro L' a' w' hbw hrel hall
    have hl' : L'[i]? = some false := by rw [hrel.listed i hni]; exact hl0
    have hin : i ∈ Region.ready md ops L' := hrel.ready (by simpa using hr) hni
    have s := step L' a' w' hbw hrel
    rw [show left L' = (left L' - 1) + 1 by have := left_pos hl'; omega]
    refine ⟨fun h0 => (by rw [h0] at hin; cases hin), fun j hj => ?_⟩
    have hnj : ∀ f ∈ F, f.i ≠ j := by
      rintro f hf rfl
      have := (mem_ready.1 hj).1
      rw [getD_of (hall f hf)] at this; cases this
    have hj' := hrel.readyOn hj hnj
    rw [hone] at hj'
    rw [List.mem_singleton.1 hj']
    exact s
  · intro L' a' w' hbw hrel j hj hnj _
    have hj' := hrel.readyOn hj hnj
    rw [hone] at hj'
    rw [List.mem_singleton.1 hj']
    exact step L' a' w' hbw hrel
def allWait (md : Region.Mode) (ops : Array Oper) (F : List Fl) (L : Array Bool) : Bool :=
  (List.range ops.size).all fun j => L.getD j true || F.any (fun f => f.i == j) || match ops[j]? with
    | some o => F.all fun f => o.after.any fun e => Region.binds md e && e.on == f.i
    | none => true
theorem good_end (ok : Flok P ops md F a.tmps.size) (hz : allWait md ops F L = true)
    (h : SE W E w → ∀ L' a' w', Below w.heap.size w w' → Rel F W.heap.size L a L' a' w' → (∀ f ∈ F, L'[f.i]? = some true) → wpAnyH P md ops Q (SE W E) (left L') L' a' w') :
    Good P md ops Q W E F L a w := by
  intro hW
  refine float_core ok (h hW) ?_ hW
  intro L' a' w' hbw hrel j hj hnj hsome
  obtain ⟨f, hf, hlf⟩ := hsome
  obtain ⟨h0, o, ho, hall⟩ := mem_ready.1 hj
  have hjl : j < ops.size := (Array.getElem?_eq_some_iff.1 ho).1
  have := List.all_eq_true.1 hz j (List.mem_range.2 hjl)
  have hLj : L.getD j true = false := by rw [← h0]; simp only [Array.getD_eq_getD_getElem?]; rw [hrel.listed j hnj]
  simp only [hLj, ho, Bool.false_or, Bool.or_eq_true] at this
  rcases this with h1 | h1
  · obtain ⟨f', hf', e⟩ := List.any_eq_true.1 h1
    exact absurd (by simpa using e) (hnj f' hf')
  · have h2 := List.all_eq_true.1 h1 f hf
    obtain ⟨e, he, hb⟩ := Array.any_eq_true'.1 h2
    simp only [Bool.and_eq_true, beq_iff_eq] at hb
    have h3 := hall e he hb.1
    rw [hb.2, getD_of hlf] at h3
    cases h3
theorem arr_put {T T' : Array Value} {d : Nat} {v : Value} (hs : T'.size = T.size) (h : ∀ x, x ≠ d → T'[x]? = T[x]?) (hd : T'[d]? = some v) : T' = T.setIfInBounds d v := by
  apply Array.ext_getElem?
  intro x
  by_cases e : x = d
  · subst e; rw [hd]; simp [← hs, (Array.getElem?_eq_some_iff.1 hd).1]
  · rw [h x e, Array.getElem?_setIfInBounds_ne (Ne.symm e)]
theorem flag_put {L L' : Array Bool} {d : Nat} {v : Bool} (h : ∀ x, x ≠ d → L'[x]? = L[x]?) (h0 : (L[d]?).isSome) (hd : L'[d]? = some v) : L' = L.setIfInBounds d v := by
  apply Array.ext_getElem?
  intro x
  by_cases e : x = d
  · subst e
    rw [hd]
    rcases Nat.lt_or_ge x L.size with h1 | h1
    · simp [h1]
    · simp [Array.getElem?_eq_none h1] at h0
  · rw [h x e, Array.getElem?_setIfInBounds_ne (Ne.symm e)]
theorem Flok.nil : Flok P ops md [] n := ⟨fun f hf => (nomatch hf), fun f hf => (nomatch hf), fun f hf => (nomatch hf), fun f hf => (nomatch hf)⟩
theorem good_end0 (k : Nat) (hk : left L = k)
    (h : SE W E w → ∀ w', Below w.heap.size w w' → wpAnyH P md ops Q (SE W E) k L a w') : Good P md ops Q W E [] L a w := by
  intro hW L' a' w' hb hr
  have e1 : L' = L := Array.ext_getElem? fun x => hr.listed x (fun f hf => nomatch hf)
  have e2 : a' = a := by
    have := Array.ext_getElem? fun x => hr.slot x (fun f hf => nomatch hf)
    obtain ⟨T, D⟩ := a
    obtain ⟨T', D'⟩ := a'
    have hd := hr.defers
    dsimp only at this hd
    rw [this, hd]
  subst e1; subst e2
  rw [hk]
  exact h hW w' hb
theorem good_end1 (k : Nat) {i d t : Nat} {z : Array Value} (ok : Flok P ops md [⟨i, d, t, z⟩] n) (hsz : a.tmps.size = n) (hz : allWait md ops [⟨i, d, t, z⟩] L = true) (hk : left (L.setIfInBounds i true) = k)
    (h : SE W E w → ∀ g w', Below w.heap.size w w' → W.heap.size ≤ g → Box w' g t z →
      wpAnyH P md ops Q (SE W E) k (L.setIfInBounds i true) (a.put (some d) (.pointer (some ⟨g, 0, none⟩))) w') : Good P md ops Q W E [⟨i, d, t, z⟩] L a w := by
  subst hsz
  refine good_end ok hz ?_
  intro hW L' a' w' hb hr hall
  have h1 := hall ⟨i, d, t, z⟩ List.mem_cons_self
  obtain ⟨g, g1, g2, g3⟩ := hr.made ⟨i, d, t, z⟩ List.mem_cons_self h1
  have e1 : L' = L.setIfInBounds i true := flag_put (fun x hx => hr.listed x (by simpa using Ne.symm hx)) (by rw [hr.no ⟨i, d, t, z⟩ List.mem_cons_self]; rfl) h1
  have e2 : a' = a.put (some d) (.pointer (some ⟨g, 0, none⟩)) := by
    have := arr_put hr.size (fun x hx => hr.slot x (by simpa using Ne.symm hx)) g1
    obtain ⟨T, D⟩ := a
    obtain ⟨T', D'⟩ := a'
    have hd := hr.defers
    dsimp only at this hd
    simp only [Act.put, this, hd]
  subst e1; subst e2
  rw [hk]
  exact h hW g w' hb g2 g3
def parts (ops : Array Oper) (i : Nat) : Option (Option Tmp × Op × Option (Nat × Bool)) := (ops[i]?).map fun o => (o.dst, o.op, o.guard)
def plainOp : Op → Bool
  | .call .. | .next .. | .select .. | .go .. | .defer .. => false
  | _ => true
def bare (d : Option Tmp) (op : Op) (g : Option (Nat × Bool)) : Oper := { dst := d, op, type := 0, pos := "", after := #[], guard := g }
theorem exec_bare {o : Oper} (h : plainOp o.op = true) (ρ : Operand → Value) : execOp ρ o = execOp ρ (bare o.dst o.op o.guard) := by
  obtain ⟨dst, op, type, pos, after, guard⟩ := o
  cases op <;> first | rfl | cases h
theorem parts_some {i : Nat} {d : Option Tmp} {op : Op} {g : Option (Nat × Bool)} (h : parts ops i = some (d, op, g)) : ∃ o, ops[i]? = some o ∧ o.dst = d ∧ o.op = op ∧ o.guard = g := by
  unfold parts at h
  cases ho : ops[i]? with
  | none => rw [ho] at h; cases h
  | some o => rw [ho] at h; injection h with h; injection h with h1 h; injection h with h2 h3; exact ⟨o, rfl, h1, h2, h3⟩
theorem wanted_bare (o : Oper) (f : Nat → Option Bool) : Region.wanted (bare o.dst o.op o.guard) f = Region.wanted o f := rfl
theorem aloof_bare (o : Oper) : aloof ops F (bare o.dst o.op o.guard) = aloof ops F o := rfl
theorem Flok.one {i d t : Nat} {z : Array Value} (hop : parts ops i = some (some d, .alloc t, none)) (haf : ((ops[i]?).map fun o => o.after.all fun e => !Region.binds md e) = some true) (hd : Nat.blt d n = true)
    (hrun : ∀ w : World, (Instr.alloc t true (.tuple #[])).run P w = .ok (.pointer (some ⟨w.heap.size, 0, none⟩)) (w.alloc (.cells z t))) : Flok P ops md [⟨i, d, t, z⟩] n := by
  refine ⟨fun f hf => ?_, fun f hf f' hf' _ => ?_, fun f hf f' hf' _ => ?_, fun f hf => ?_⟩
  · rw [List.mem_singleton.1 hf]
    obtain ⟨o, ho, h1, h2, h3⟩ := parts_some hop
    rw [ho] at haf
    injection haf with haf
    refine ⟨o, ho, h1, h3, fun e he => by simpa using Array.all_eq_true_iff_forall_mem.1 haf e he, fun ρ w => ?_⟩
    rw [exec_bare (by rw [h2]; rfl), h2]
    simp [execOp, bare, hrun]
  · rw [List.mem_singleton.1 hf, List.mem_singleton.1 hf']
  · rw [List.mem_singleton.1 hf, List.mem_singleton.1 hf']
  · rw [List.mem_singleton.1 hf]; exact Nat.le_of_ble_eq_true hd
theorem Flok.cons {f : Fl} {F : List Fl} (h : Flok P ops md [f] n) (k : Flok P ops md F n) (hne : (F.all fun f' => f'.i != f.i && f'.d != f.d) = true) : Flok P ops md (f :: F) n := by
  have hn : ∀ f' ∈ F, f'.i ≠ f.i ∧ f'.d ≠ f.d := fun f' hf' => by simpa using List.all_eq_true.1 hne f' hf'
  refine ⟨fun x hx => ?_, fun x hx y hy e => ?_, fun x hx y hy e => ?_, fun x hx => ?_⟩
  · rcases List.mem_cons.1 hx with rfl | hx
    · exact h.op x List.mem_cons_self
    · exact k.op x hx
  · rcases List.mem_cons.1 hx with h1 | h1 <;> rcases List.mem_cons.1 hy with h2 | h2
    · rw [h1, h2]
    · rw [h1] at e; exact absurd e.symm (hn y h2).1
    · rw [h2] at e; exact absurd e (hn x h1).1
    · exact k.inj x h1 y h2 e
  · rcases List.mem_cons.1 hx with h1 | h1 <;> rcases List.mem_cons.1 hy with h2 | h2
    · rw [h1, h2]
    · rw [h1] at e; exact absurd e.symm (hn y h2).2
    · rw [h2] at e; exact absurd e (hn x h1).2
    · exact k.injd x h1 y h2 e
  · rcases List.mem_cons.1 hx with rfl | hx
    · exact h.slot x List.mem_cons_self
    · exact k.slot x hx
theorem good_pureX (i : Nat) (d : Option Tmp) (op : Op) (g : Option (Nat × Bool)) (v : Value) (hi : parts ops i = some (d, op, g))
    (hc : (Region.noSelect ops && plainOp op && aloof ops F (bare d op g) && (F.all fun f => f.i != i) && Region.free md ops L i && (Region.ready md ops L).contains i && (L[i]? == some false)) = true)
    (hw : Region.wanted (bare d op g) (yielded ops a.tmps) = true) (hQ : ∀ c a w, Q (.panic c) (a.put d v) w → Q (.panic c) a w)
    (hy : ∀ w', SE W E w' → (execOp a.eval { dst := d, op := op, type := 0, pos := "", after := #[], guard := g }).run P w' = .ok (.value v) w')
    (h : Good P md ops Q W E F (L.setIfInBounds i true) (a.put d v) w) : Good P md ops Q W E F L a w := by
  obtain ⟨o, ho, rfl, rfl, rfl⟩ := parts_some hi
  simp only [Bool.and_eq_true] at hc
  obtain ⟨⟨⟨⟨⟨⟨c1, c2⟩, c3⟩, c4⟩, c5⟩, c6⟩, c7⟩ := hc
  exact good_pure i ho c1 (by rw [← aloof_bare]; exact c3) c4 c5 c6 c7 hQ (.inl ⟨hw, fun w' hw' => by rw [exec_bare c2]; exact hy w' hw'⟩) h
theorem good_callX (i f : Nat) (d : Option Tmp) (x : Array Operand) (tys : Array TypeId) (g : Option (Nat × Bool)) (args : Array Value)
    (hi : parts ops i = some (d, Op.call { callee := Callee.value (Operand.func f), args := x, argTypes := tys }, g)) (ok : Flok P ops md F n) (hsz : a.tmps.size = n)
    (hc : (aloof ops F (bare d (Op.call { callee := Callee.value (Operand.func f), args := x, argTypes := tys }) g) && (F.all fun f => f.i != i) && (Region.ready md ops L).contains i && (L[i]? == some false)) = true)
    (hone : Region.ready md ops (allOn F L) = [i]) (hw : Region.wanted (bare d (Op.call { callee := Callee.value (Operand.func f), args := x, argTypes := tys }) g) (yielded ops a.tmps) = true)
    {fn : Func} {c : Code} (hf : P.funcs[f]? = some fn) (hname : (fn.name == "runtime.NumGoroutine") = false) (hb : fn.body = some c)
    (hargs : x.map a.eval = args)
    (hcall : ∀ w', Below w.heap.size w w' → Calls P f args w' (Ret w' fun w2 v => Good P md ops Q W E F (L.setIfInBounds i true) (a.put d v) w2)) : Good P md ops Q W E F L a w := by
  subst hsz
  obtain ⟨o, ho, rfl, h2, rfl⟩ := parts_some hi
  simp only [Bool.and_eq_true] at hc
  obtain ⟨⟨⟨c1, c2⟩, c3⟩, c4⟩ := hc
  rw [← h2] at c1 hw
  exact good_call i f ho h2 ok (by rw [← aloof_bare]; exact c1) c2 c3 c4 hone hw hf hname hb hargs hcall
theorem held_pureX {S : World → Prop} {m : Nat} (i : Nat) (d : Option Tmp) (op : Op) (g : Option (Nat × Bool)) (v : Value) (hi : parts ops i = some (d, op, g))
    (hc : (Region.noSelect ops && plainOp op && Region.free md ops L i && (Region.ready md ops L).contains i) = true)
    (hw : Region.wanted (bare d op g) (yielded ops a.tmps) = true) (hQ : ∀ c a w, Q (.panic c) (a.put d v) w → Q (.panic c) a w)
    (hy : ∀ w', (execOp a.eval { dst := d, op := op, type := 0, pos := "", after := #[], guard := g }).run P w' = .ok (.value v) w') (hS : S w)
    (h : wpAnyH P md ops Q S m (L.setIfInBounds i true) (a.put d v) w) : wpAnyH P md ops Q S (m + 1) L a w := by
  obtain ⟨o, ho, rfl, rfl, rfl⟩ := parts_some hi
  simp only [Bool.and_eq_true] at hc
  obtain ⟨⟨⟨c1, c2⟩, c3⟩, c4⟩ := hc
  exact wpAnyH_take ho c1 c3 c4 hQ (.inl ⟨hw, fun w' _ => by rw [exec_bare c2]; exact hy w'⟩) hS h
theorem held_oneX {S : World → Prop} {m : Nat} (i : Nat) (op : Op) (g : Option (Nat × Bool)) (w2 : World) (hi : parts ops i = some (none, op, g))
    (hp : plainOp op = true) (hone : Region.ready md ops L = [i]) (hw : Region.wanted (bare none op g) (yielded ops a.tmps) = true)
    (hrun : (execOp a.eval { dst := none, op := op, type := 0, pos := "", after := #[], guard := g }).run P w = .ok .skip w2) (hS : S w2) (h : wpAnyH P md ops Q S m (L.setIfInBounds i true) a w2) : wpAnyH P md ops Q S (m + 1) L a w := by
  obtain ⟨o, ho, hd, rfl, rfl⟩ := parts_some hi
  refine ⟨fun h0 => (by rw [hone] at h0; cases h0), fun j hj => ?_⟩
  rw [hone] at hj
  rw [List.mem_singleton.1 hj]
  unfold Go.wpOp
  simp only [ho]
  rw [if_pos (by rw [← wanted_bare, hd]; exact hw)]
  refine .inl ?_
  have hrun : (execOp a.eval (bare none o.op o.guard)).run P w = .ok .skip w2 := hrun
  rw [← hd, ← exec_bare hp] at hrun
  simp only [Oper.wp, hrun, Oper.upon, hd]
  exact ⟨hS, h⟩
end
end Go.Proofs.YtikglhmabidjoaaGreatDoor
namespace Go.Proofs.YtikglhmabidjoaaGreatDoor
open Go.RowKit Nt
theorem frozen_new (w : World) (c : Array Value) (t : TypeId) (i : Nat) : (w.alloc (.cells c t)).frozen? ⟨w.heap.size, i, none⟩ = false := by
  rw [frozen?_alloc_cells]
  simp [World.frozen?]
theorem box_kept {w w1 : World} {x y : Value} {t : TypeId} (hb : Below (w.alloc (.cells #[x, y] t)).heap.size (w.alloc (.cells #[x, y] t)) w1) :
    w1.cell? ⟨w.heap.size, 0, none⟩ = some x ∧ w1.cell? ⟨w.heap.size, 1, none⟩ = some y ∧ w1.frozen? ⟨w.heap.size, 0, none⟩ = false ∧ w1.frozen? ⟨w.heap.size, 1, none⟩ = false := by
  have hs : w.heap.size < (w.alloc (.cells #[x, y] t)).heap.size := by simp
  refine ⟨(hb.cell hs).trans ?_, (hb.cell hs).trans ?_, (hb.frozen hs).trans ?_, (hb.frozen hs).trans ?_⟩
  · rw [World.cell?_alloc_at _ _ _ _ (by simp)]; rfl
  · rw [World.cell?_alloc_at _ _ _ _ (by simp)]; rfl
  · exact frozen_new _ _ _ _
  · exact frozen_new _ _ _ _
theorem results_mid {fn : Func} {p : Tmp} {ty : TypeId} (h : fn.results = #[.cell p ty]) (tmps : Array Value) (P : Program) (w : World) (g : Nat) (cs : List Value) (d : TypeDesc)
    (hp : tmps.getD p undef = .pointer (some ⟨g, 0, none⟩)) (hc : w.rangeAt g 0 cs) (hu : P.underlying ty = some d) (hd : d.isRow = true) (hi : (P.info? ty).map (·.size) = some cs.length) :
    (results fn tmps).run P w = .ok (.agg cs.toArray) w := by
  have hp' : tmps[p]?.getD undef = .pointer (some ⟨g, 0, none⟩) := by simpa using hp
  simp [results, h, hp', asAddr, run_loadVar_mid w g 0 ty cs d hc hu hd hi]
theorem range2 {w : World} {g : Nat} {x y : Value} (h0 : w.cell? ⟨g, 0, none⟩ = some x) (h1 : w.cell? ⟨g, 1, none⟩ = some y) : w.rangeAt g 0 [x, y] := by
  intro j v hv
  match j, hv with
  | 0, hv => cases hv; exact h0
  | 1, hv => cases hv; exact h1
  | j + 2, hv => simp at hv
theorem ret_int {fn : Func} {p : Tmp} (h : fn.results = #[.cell p 105]) (tmps : Array Value) (w : World) (g : Nat) (x y : Value)
    (hp : tmps.getD p undef = .pointer (some ⟨g, 0, none⟩)) (h0 : w.cell? ⟨g, 0, none⟩ = some x) (h1 : w.cell? ⟨g, 1, none⟩ = some y) : (results fn tmps).run Tryz.prog w = .ok (.agg #[x, y]) w :=
  results_mid h tmps _ w g [x, y] _ hp (range2 h0 h1) Tryz.underlying105 rfl (by kernel_rfl)
theorem box_set {w : World} {b : Nat} {x y x' y' : Value} (h0 : w.cell? ⟨b, 0, none⟩ = some x) (h1 : w.cell? ⟨b, 1, none⟩ = some y) :
    ((w.setCell ⟨b, 0, none⟩ x').setCell ⟨b, 1, none⟩ y').cell? ⟨b, 0, none⟩ = some x' ∧ ((w.setCell ⟨b, 0, none⟩ x').setCell ⟨b, 1, none⟩ y').cell? ⟨b, 1, none⟩ = some y' := by
  have hne : (⟨b, 0, none⟩ : Addr) ≠ ⟨b, 1, none⟩ := by simp
  have k0 : (w.setCell ⟨b, 0, none⟩ x').cell? ⟨b, 0, none⟩ = some x' := World.cell?_setCell_same' _ _ _ (by rw [h0]; rfl)
  have k1 : (w.setCell ⟨b, 0, none⟩ x').cell? ⟨b, 1, none⟩ = some y := (World.cell?_setCell_other _ _ _ _ hne).trans h1
  exact ⟨(World.cell?_setCell_other _ _ _ _ (Ne.symm hne)).trans k0, World.cell?_setCell_same' _ _ _ (by rw [k1]; rfl)⟩
theorem boxes2 {w w1 : World} {x y x' y' : Value} {o : Obj} {t t' : TypeId} (hb : Below (((w.alloc (.cells #[x, y] t)).alloc (.cells #[x', y'] t')).alloc o).drew.heap.size (((w.alloc (.cells #[x, y] t)).alloc (.cells #[x', y'] t')).alloc o).drew w1) :
    w1.cell? ⟨w.heap.size, 0, none⟩ = some x ∧ w1.cell? ⟨w.heap.size, 1, none⟩ = some y ∧ w1.cell? ⟨w.heap.size + 1, 0, none⟩ = some x' ∧ w1.cell? ⟨w.heap.size + 1, 1, none⟩ = some y' := by
  have b1 : Below (w.alloc (.cells #[x, y] t)).heap.size (w.alloc (.cells #[x, y] t)) w1 :=
    ((((Below.refl _ _).alloc (by simp) _).alloc (by simp) _).drew).trans (hb.mono (by simp [World.drew]))
  have b2 : Below ((w.alloc (.cells #[x, y] t)).alloc (.cells #[x', y'] t')).heap.size ((w.alloc (.cells #[x, y] t)).alloc (.cells #[x', y'] t')) w1 :=
    (((Below.refl _ _).alloc (by simp) _).drew).trans (hb.mono (by simp [World.drew]))
  have h1 := box_kept b1
  have h2 := box_kept b2
  rw [World.size_alloc] at h2
  exact ⟨h1.1, h1.2.1, h2.1, h2.2.1⟩
theorem boxes2s {w1 : World} {g : Nat} {a b c d u u' : Value} (h : w1.cell? ⟨g, 0, none⟩ = some a ∧ w1.cell? ⟨g, 1, none⟩ = some b ∧ w1.cell? ⟨g + 1, 0, none⟩ = some c ∧ w1.cell? ⟨g + 1, 1, none⟩ = some d) :
    ((w1.setCell ⟨g + 1 + 1, 0, none⟩ u).setCell ⟨g + 1 + 1, 1, none⟩ u').cell? ⟨g, 0, none⟩ = some a ∧ ((w1.setCell ⟨g + 1 + 1, 0, none⟩ u).setCell ⟨g + 1 + 1, 1, none⟩ u').cell? ⟨g, 1, none⟩ = some b ∧
      ((w1.setCell ⟨g + 1 + 1, 0, none⟩ u).setCell ⟨g + 1 + 1, 1, none⟩ u').cell? ⟨g + 1, 0, none⟩ = some c ∧ ((w1.setCell ⟨g + 1 + 1, 0, none⟩ u).setCell ⟨g + 1 + 1, 1, none⟩ u').cell? ⟨g + 1, 1, none⟩ = some d := by
  have far : ∀ (b i : Nat), b < g + 1 + 1 → ((w1.setCell ⟨g + 1 + 1, 0, none⟩ u).setCell ⟨g + 1 + 1, 1, none⟩ u').cell? ⟨b, i, none⟩ = w1.cell? ⟨b, i, none⟩ := fun b i hb =>
    (World.cell?_setCell_other _ _ _ _ (by intro he; injection he with he; omega)).trans (World.cell?_setCell_other _ _ _ _ (by intro he; injection he with he; omega))
  exact ⟨(far _ _ (by omega)).trans h.1, (far _ _ (by omega)).trans h.2.1, (far _ _ (by omega)).trans h.2.2.1, (far _ _ (by omega)).trans h.2.2.2⟩
theorem Sl.lit {w : World} {v : Value} {xs : List Nat} (h : Sl w v xs) : ∃ ad n cap, v = .slice ad n cap := let ⟨ad, n, cap, hv, _⟩ := h; ⟨ad, n, cap, hv⟩
theorem Sl.poke {w : World} {v u x : Value} {xs : List Nat} (h : Sl w v xs) {p : Addr} (hp : w.cell? p = some x) (hx : ∀ k n, x ≠ .int k n) : Sl (w.setCell p u) v xs := by
  obtain ⟨ad, n, cap, hv, hl, hc, hm, hlm, hs⟩ := h
  refine ⟨ad, n, cap, hv, hl, hc, hm, hlm, fun h0 => ?_⟩
  obtain ⟨b, off, ha, hbs, hcell⟩ := hs h0
  refine ⟨b, off, ha, by simpa using hbs, fun i hi => ?_⟩
  have hne : p ≠ ⟨b, off + i, none⟩ := by
    rintro rfl
    rw [hcell i hi] at hp
    injection hp with hp
    exact hx _ _ hp.symm
  exact (World.cell?_setCell_other _ _ _ _ hne).trans (hcell i hi)
theorem Sl.box {w : World} {g : Nat} {v u u' : Value} {b : Bool} {s : Option Addr} {m c : Nat} {xs : List Nat} (h : Sl w v xs) (h0 : w.cell? ⟨g, 0, none⟩ = some (.bool b)) (h1 : w.cell? ⟨g, 1, none⟩ = some (.slice s m c)) :
    Sl ((w.setCell ⟨g, 0, none⟩ u).setCell ⟨g, 1, none⟩ u') v xs := by
  have hne : (⟨g, 0, none⟩ : Addr) ≠ ⟨g, 1, none⟩ := by simp
  exact (h.poke h0 (by simp)).poke ((World.cell?_setCell_other _ _ _ _ hne).trans h1) (by simp)
theorem below_box {w0 w : World} {g : Nat} {u u' : Value} (h : Below w0.heap.size w0 w) (hg : w0.heap.size ≤ g) : Below w0.heap.size w0 ((w.setCell ⟨g, 0, none⟩ u).setCell ⟨g, 1, none⟩ u') := (h.setCell hg _).setCell hg _
end Go.Proofs.YtikglhmabidjoaaGreatDoor
namespace Go.Proofs.YtikglhmabidjoaaGreatDoor
open Go.RowKit Nt
def iv (neg : Bool) (m : Nat) : Int := if neg then -(m : Int) else m
def CI (z : Int) (w : World) (v : Value) : Prop := ∃ s, v = .agg #[.bool (decide (z < 0)), s] ∧ Num z.natAbs w s
theorem CI.below {z : Int} {w w' : World} {v : Value} (h : CI z w v) (hb : Below w.heap.size w w') : CI z w' v :=
  let ⟨s, h1, h2⟩ := h; ⟨s, h1, Sl.below h2 hb⟩
theorem iv_abs (neg : Bool) (m : Nat) : (iv neg m).natAbs = m := by unfold iv; split <;> omega
theorem iv_lt (neg : Bool) (m : Nat) : decide (iv neg m < 0) = (neg && decide (0 < m)) := by
  unfold iv; cases neg <;> simp
set_option maxRecDepth 100000 in
theorem imake_any (neg : Bool) (v : Value) (xs : List Nat) (w : World) (h : Sl w v xs) : Calls Tryz.prog 173 #[.bool neg, v] w (Ret w (CI (iv neg (val xs)))) := by
  have H := Lib.hid h
  clear h
  go_enter Tryz.func173, Tryz.ntmps173
  go_wp2_with fail
  refine (make_any _ _ _ (H.out.below ((Below.refl _ _).alloc (Nat.le_refl _) _))).mono ?_
  rintro e w1 ⟨v1, rfl, h1, hb⟩
  obtain ⟨c0, c1, f0, f1⟩ := box_kept hb
  have hB := Lib.hid (below1 hb)
  have hlt : w.heap.size < w1.heap.size := Nat.lt_of_lt_of_le (by simp) hb.size
  clear hb
  have H1 := Lib.hid h1
  obtain ⟨ad, n, cap, rfl, hn, -⟩ := h1
  have hz : decide (iv neg (val xs) < 0) = (neg && decide (0 < n)) := by
    rw [iv_lt, ← hn]
    have := @sz_eq_zero (val xs)
    unfold sz at this
    congr 1
    simp only [decide_eq_decide]
    omega
  have fin : ∀ u : Bool, u = (neg && decide (0 < n)) → Ret w (CI (iv neg (val xs))) (.returned (.agg #[.bool u, .slice ad n cap])) ((w1.setCell ⟨w.heap.size, 0, none⟩ (.bool u)).setCell ⟨w.heap.size, 1, none⟩ (.slice ad n cap)) := by
    rintro u rfl
    refine ⟨_, rfl, ⟨_, by rw [hz], ?_⟩, below_box hB.out (Nat.le_refl _)⟩
    rw [iv_abs]
    exact Sl.box H1.out c0 c1
  cases neg
  · obtain ⟨k0, k1⟩ := box_set (x' := .bool false) (y' := .slice ad n cap) c0 c1
    go_wp2
    refine bodyPost_ret (ret_int rfl _ _ w.heap.size _ _ rfl k0 k1) rfl ?_
    exact fin false rfl
  · by_cases h0 : 0 < n
    · have d0 : decide ((0 : Int) < n) = true := by simpa using h0
      obtain ⟨k0, k1⟩ := box_set (x' := .bool true) (y' := .slice ad n cap) c0 c1
      go_wp2
      refine bodyPost_ret (ret_int rfl _ _ w.heap.size _ _ rfl k0 k1) rfl ?_
      exact fin true (by simp [h0])
    · have d0 : decide ((0 : Int) < n) = false := by simpa using h0
      obtain ⟨k0, k1⟩ := box_set (x' := .bool false) (y' := .slice ad n cap) c0 c1
      go_wp2
      refine bodyPost_ret (ret_int rfl _ _ w.heap.size _ _ rfl k0 k1) rfl ?_
      exact fin false (by simp [h0])
end Go.Proofs.YtikglhmabidjoaaGreatDoor
namespace Go.Proofs.YtikglhmabidjoaaGreatDoor
open Go.RowKit Nt
set_option maxRecDepth 100000 in
theorem rimake_any (neg : Bool) (v : Value) (xs : List Nat) (w : World) (h : Sl w v xs) : Calls Tryz.prog 108 #[.bool neg, v] w (Ret w (CI (iv neg (val xs)))) := by
  have H := Lib.hid h
  clear h
  go_enter Tryz.func108, Tryz.ntmps108
  go_wp2_with fail
  refine (rmake_any _ _ _ (H.out.below ((Below.refl _ _).alloc (Nat.le_refl _) _))).mono ?_
  rintro e w1 ⟨v1, rfl, h1, hb⟩
  obtain ⟨c0, c1, f0, f1⟩ := box_kept hb
  have hB := Lib.hid (below1 hb)
  have hlt : w.heap.size < w1.heap.size := Nat.lt_of_lt_of_le (by simp) hb.size
  clear hb
  have H1 := Lib.hid h1
  obtain ⟨ad, n, cap, rfl, hn, -⟩ := h1
  have hz : decide (iv neg (val xs) < 0) = (neg && decide (0 < n)) := by
    rw [iv_lt, ← hn]
    have := @sz_eq_zero (val xs)
    unfold sz at this
    congr 1
    simp only [decide_eq_decide]
    omega
  have fin : ∀ u : Bool, u = (neg && decide (0 < n)) → Ret w (CI (iv neg (val xs))) (.returned (.agg #[.bool u, .slice ad n cap])) ((w1.setCell ⟨w.heap.size, 0, none⟩ (.bool u)).setCell ⟨w.heap.size, 1, none⟩ (.slice ad n cap)) := by
    rintro u rfl
    refine ⟨_, rfl, ⟨_, by rw [hz], ?_⟩, below_box hB.out (Nat.le_refl _)⟩
    rw [iv_abs]
    exact Sl.box H1.out c0 c1
  cases neg
  · obtain ⟨k0, k1⟩ := box_set (x' := .bool false) (y' := .slice ad n cap) c0 c1
    go_wp2
    refine bodyPost_ret (ret_int rfl _ _ w.heap.size _ _ rfl k0 k1) rfl ?_
    exact fin false rfl
  · by_cases h0 : 0 < n
    · have d0 : decide ((0 : Int) < n) = true := by simpa using h0
      obtain ⟨k0, k1⟩ := box_set (x' := .bool true) (y' := .slice ad n cap) c0 c1
      go_wp2
      refine bodyPost_ret (ret_int rfl _ _ w.heap.size _ _ rfl k0 k1) rfl ?_
      exact fin true (by simp [h0])
    · have d0 : decide ((0 : Int) < n) = false := by simpa using h0
      obtain ⟨k0, k1⟩ := box_set (x' := .bool false) (y' := .slice ad n cap) c0 c1
      go_wp2
      refine bodyPost_ret (ret_int rfl _ _ w.heap.size _ _ rfl k0 k1) rfl ?_
      exact fin false (by simp [h0])
def AI (z : Int) (L : Nat) (w : World) (v : Value) : Prop := ∃ neg s m, v = .agg #[.bool neg, s] ∧ Is m L w s ∧ iv neg m = z
def CL (z : Int) (L : Nat) (w : World) (v : Value) : Prop := CI z w v ∧ sz z.natAbs ≤ L
theorem AI.below {z : Int} {L : Nat} {w w' : World} {v : Value} (h : AI z L w v) (hb : Below w.heap.size w w') : AI z L w' v :=
  let ⟨neg, s, m, h1, h2, h3⟩ := h; ⟨neg, s, m, h1, h2.below hb, h3⟩
theorem CL.below {z : Int} {L : Nat} {w w' : World} {v : Value} (h : CL z L w v) (hb : Below w.heap.size w w') : CL z L w' v := ⟨h.1.below hb, h.2⟩
theorem CL.ai {z : Int} {L : Nat} {w : World} {v : Value} (h : CL z L w v) : AI z L w v := by
  obtain ⟨⟨s, h1, h2⟩, h3⟩ := h
  refine ⟨_, s, z.natAbs, h1, ⟨_, h2, val_limbs _, h3⟩, ?_⟩
  unfold iv
  by_cases hz : z < 0 <;> simp [hz] <;> omega
theorem CL.mono {z : Int} {L M : Nat} {w : World} {v : Value} (h : CL z L w v) (hl : L ≤ M) : CL z M w v := ⟨h.1, Nat.le_trans h.2 hl⟩
theorem imake_ai {neg : Bool} {m L : Nat} {s : Value} {w : World} (h : Is m L w s) : Calls Tryz.prog 173 #[.bool neg, s] w (Ret w (CL (iv neg m) L)) := by
  have hs := h.sz_le
  obtain ⟨xs, h, rfl, hl⟩ := h
  refine (imake_any _ _ _ _ h).mono ?_
  rintro e w' ⟨v, rfl, hn, hb⟩
  exact ⟨v, rfl, ⟨hn, by rw [iv_abs]; exact hs⟩, hb⟩
theorem rimake_ai {neg : Bool} {m L : Nat} {s : Value} {w : World} (h : Is m L w s) : Calls Tryz.prog 108 #[.bool neg, s] w (Ret w (CL (iv neg m) L)) := by
  have hs := h.sz_le
  obtain ⟨xs, h, rfl, hl⟩ := h
  refine (rimake_any _ _ _ _ h).mono ?_
  rintro e w' ⟨v, rfl, hn, hb⟩
  exact ⟨v, rfl, ⟨hn, by rw [iv_abs]; exact hs⟩, hb⟩
theorem iv_not (neg : Bool) (m : Nat) : iv (!neg) m = - iv neg m := by cases neg <;> simp [iv]
end Go.Proofs.YtikglhmabidjoaaGreatDoor
namespace Go.Proofs.YtikglhmabidjoaaGreatDoor
open Go.RowKit Nt
theorem iv_mul (na nb : Bool) (ma mb : Nat) : iv (!na == nb) (ma * mb) = iv na ma * iv nb mb := by
  cases na <;> cases nb <;> simp [iv, Int.natCast_mul, Int.neg_mul, Int.mul_neg]
theorem iv_add (na : Bool) (ma mb : Nat) : iv na (ma + mb) = iv na ma + iv na mb := by
  cases na <;> simp [iv] <;> omega
set_option maxRecDepth 100000 in
theorem imul_bx {L M : Nat} {ma mb : Nat} {sa sb : Value} {w : World} {na nb : Bool} (h : Is ma L w sa) (h' : Is mb M w sb) (hL : L ≤ 4294967296) (hM : M ≤ 4294967296) :
    Calls Tryz.prog 171 #[.agg #[.bool na, sa], .agg #[.bool nb, sb]] w (Ret w (CL (iv na ma * iv nb mb) (L + M))) := by
  have H := Lib.hid h
  have H' := Lib.hid h'
  clear h h'
  go_enter Tryz.func171, Tryz.ntmps171
  go_wp2_with fail
  obtain ⟨W3, hW3⟩ : ∃ W3, W3 = (((w.alloc (.cells #[.bool na, sa] 105)).alloc (.cells #[.bool nb, sb] 105)).alloc (.cells #[.bool false, .slice none 0 0] 105)) := ⟨_, rfl⟩
  have hBW : Below w.heap.size w W3.drew := by rw [hW3]; exact ((((Below.refl _ _).alloc (Nat.le_refl _) _).alloc (by simp) _).alloc (by simp; omega) _).drew
  have A3 := Lib.hid (H.out.below hBW)
  have B3 := Lib.hid (H'.out.below hBW)
  have HBW := Lib.hid hBW
  clear hBW
  subst hW3
  go_region_held3 (fun w' => w'.cell? ⟨w.heap.size, 0, none⟩ = some (.bool na) ∧ w'.cell? ⟨w.heap.size, 1, none⟩ = some sa ∧ w'.cell? ⟨w.heap.size + 1, 0, none⟩ = some (.bool nb) ∧ w'.cell? ⟨w.heap.size + 1, 1, none⟩ = some sb)
    (first | exact boxes2s (boxes2 (hb1.trans (hb2.mono hb1.size))) | exact boxes2 (hb1.trans (hb2.mono hb1.size)) | exact boxes2 hb1 | go_keep)
    (first | (go_at_call 133; refine (mul_is A3.out B3.out hL hM).mono ?_; rintro e w1 ⟨v1, rfl, h1, hb1⟩)
           | (go_at_call 173; refine (imake_ai h1.is).mono ?_; rintro e w2 ⟨v2, rfl, ⟨⟨s2, rfl, h2⟩, hs2⟩, hb2⟩; obtain ⟨ad, n, cap, rfl⟩ := h2.lit; obtain ⟨c0, c1, f0, f1⟩ := box_kept (((Below.refl _ _).drew).trans (hb1.trans (hb2.mono hb1.size))); rw [World.size_alloc, World.size_alloc] at c0 c1 f0 f1))
  obtain ⟨k0, k1⟩ := box_set (x' := .bool (decide (iv (!na == nb) (ma * mb) < 0))) (y' := .slice ad n cap) c0 c1
  go_wp2
  refine bodyPost_ret (ret_int rfl _ _ (w.heap.size + 1 + 1) _ _ rfl k0 k1) rfl ?_
  rw [← iv_mul]
  exact ⟨_, rfl, ⟨⟨_, rfl, Sl.box h2 c0 c1⟩, hs2⟩, below_box (HBW.out.trans ((hb1.trans (hb2.mono hb1.size)).mono HBW.out.size)) (by omega)⟩
set_option maxRecDepth 100000 in
theorem iadd_bx_false {L M : Nat} {ma mb : Nat} {sa sb : Value} {w : World}  (h : Is ma L w sa) (h' : Is mb M w sb) (hL : L ≤ 4294967296) (hM : M ≤ 4294967296) :
    Calls Tryz.prog 135 #[.agg #[.bool false, sa], .agg #[.bool false, sb]] w (Ret w (CL (iv false ma + iv false mb) (max L M + 1))) := by
  have H := Lib.hid h
  have H' := Lib.hid h'
  clear h h'
  go_enter Tryz.func135, Tryz.ntmps135
  go_wp2_with fail
  obtain ⟨W3, hW3⟩ : ∃ W3, W3 = (((w.alloc (.cells #[.bool false, sa] 105)).alloc (.cells #[.bool false, sb] 105)).alloc (.cells #[.bool false, .slice none 0 0] 105)) := ⟨_, rfl⟩
  have hBW : Below w.heap.size w W3.drew := by rw [hW3]; exact ((((Below.refl _ _).alloc (Nat.le_refl _) _).alloc (by simp) _).alloc (by simp; omega) _).drew
  have A3 := Lib.hid (H.out.below hBW)
  have B3 := Lib.hid (H'.out.below hBW)
  have HBW := Lib.hid hBW
  clear hBW
  subst hW3
  go_region_held3 (fun w' => w'.cell? ⟨w.heap.size, 0, none⟩ = some (.bool false) ∧ w'.cell? ⟨w.heap.size, 1, none⟩ = some sa ∧ w'.cell? ⟨w.heap.size + 1, 0, none⟩ = some (.bool false) ∧ w'.cell? ⟨w.heap.size + 1, 1, none⟩ = some sb)
    (first | exact boxes2s (boxes2 (hb1.trans (hb2.mono hb1.size))) | exact boxes2 (hb1.trans (hb2.mono hb1.size)) | exact boxes2 hb1 | go_keep)
    (first | (go_at_call 180; refine (add_is A3.out B3.out hL hM).mono ?_; rintro e w1 ⟨v1, rfl, h1, hb1⟩)
           | (go_at_call 173; refine (imake_ai h1.is).mono ?_; rintro e w2 ⟨v2, rfl, ⟨⟨s2, rfl, h2⟩, hs2⟩, hb2⟩; obtain ⟨ad, n, cap, rfl⟩ := h2.lit; obtain ⟨c0, c1, f0, f1⟩ := box_kept (((Below.refl _ _).drew).trans (hb1.trans (hb2.mono hb1.size))); rw [World.size_alloc, World.size_alloc] at c0 c1 f0 f1))
  obtain ⟨k0, k1⟩ := box_set (x' := .bool (decide (iv false (ma + mb) < 0))) (y' := .slice ad n cap) c0 c1
  go_wp2
  refine bodyPost_ret (ret_int rfl _ _ (w.heap.size + 1 + 1) _ _ rfl k0 k1) rfl ?_
  rw [← iv_add]
  exact ⟨_, rfl, ⟨⟨_, rfl, Sl.box h2 c0 c1⟩, hs2⟩, below_box (HBW.out.trans ((hb1.trans (hb2.mono hb1.size)).mono HBW.out.size)) (by omega)⟩
set_option maxRecDepth 100000 in
theorem iadd_bx_true {L M : Nat} {ma mb : Nat} {sa sb : Value} {w : World}  (h : Is ma L w sa) (h' : Is mb M w sb) (hL : L ≤ 4294967296) (hM : M ≤ 4294967296) :
    Calls Tryz.prog 135 #[.agg #[.bool true, sa], .agg #[.bool true, sb]] w (Ret w (CL (iv true ma + iv true mb) (max L M + 1))) := by
  have H := Lib.hid h
  have H' := Lib.hid h'
  clear h h'
  go_enter Tryz.func135, Tryz.ntmps135
  go_wp2_with fail
  obtain ⟨W3, hW3⟩ : ∃ W3, W3 = (((w.alloc (.cells #[.bool true, sa] 105)).alloc (.cells #[.bool true, sb] 105)).alloc (.cells #[.bool false, .slice none 0 0] 105)) := ⟨_, rfl⟩
  have hBW : Below w.heap.size w W3.drew := by rw [hW3]; exact ((((Below.refl _ _).alloc (Nat.le_refl _) _).alloc (by simp) _).alloc (by simp; omega) _).drew
  have A3 := Lib.hid (H.out.below hBW)
  have B3 := Lib.hid (H'.out.below hBW)
  have HBW := Lib.hid hBW
  clear hBW
  subst hW3
  go_region_held3 (fun w' => w'.cell? ⟨w.heap.size, 0, none⟩ = some (.bool true) ∧ w'.cell? ⟨w.heap.size, 1, none⟩ = some sa ∧ w'.cell? ⟨w.heap.size + 1, 0, none⟩ = some (.bool true) ∧ w'.cell? ⟨w.heap.size + 1, 1, none⟩ = some sb)
    (first | exact boxes2s (boxes2 (hb1.trans (hb2.mono hb1.size))) | exact boxes2 (hb1.trans (hb2.mono hb1.size)) | exact boxes2 hb1 | go_keep)
    (first | (go_at_call 180; refine (add_is A3.out B3.out hL hM).mono ?_; rintro e w1 ⟨v1, rfl, h1, hb1⟩)
           | (go_at_call 173; refine (imake_ai h1.is).mono ?_; rintro e w2 ⟨v2, rfl, ⟨⟨s2, rfl, h2⟩, hs2⟩, hb2⟩; obtain ⟨ad, n, cap, rfl⟩ := h2.lit; obtain ⟨c0, c1, f0, f1⟩ := box_kept (((Below.refl _ _).drew).trans (hb1.trans (hb2.mono hb1.size))); rw [World.size_alloc, World.size_alloc] at c0 c1 f0 f1))
  obtain ⟨k0, k1⟩ := box_set (x' := .bool (decide (iv true (ma + mb) < 0))) (y' := .slice ad n cap) c0 c1
  go_wp2
  refine bodyPost_ret (ret_int rfl _ _ (w.heap.size + 1 + 1) _ _ rfl k0 k1) rfl ?_
  rw [← iv_add]
  exact ⟨_, rfl, ⟨⟨_, rfl, Sl.box h2 c0 c1⟩, hs2⟩, below_box (HBW.out.trans ((hb1.trans (hb2.mono hb1.size)).mono HBW.out.size)) (by omega)⟩
theorem imul_ai {y z : Int} {L M : Nat} {u v : Value} {w : World} (h : AI y L w u) (h' : AI z M w v) (hL : L ≤ 4294967296) (hM : M ≤ 4294967296) :
    Calls Tryz.prog 171 #[u, v] w (Ret w (CL (y * z) (L + M))) := by
  obtain ⟨na, sa, ma, rfl, h, rfl⟩ := h
  obtain ⟨nb, sb, mb, rfl, h', rfl⟩ := h'
  exact imul_bx h h' hL hM
set_option maxRecDepth 100000 in
theorem riadd_bx_false {L M : Nat} {ma mb : Nat} {sa sb : Value} {w : World}  (h : Is ma L w sa) (h' : Is mb M w sb) (hL : L ≤ 4294967296) (hM : M ≤ 4294967296) :
    Calls Tryz.prog 99 #[.agg #[.bool false, sa], .agg #[.bool false, sb]] w (Ret w (CL (iv false ma + iv false mb) (max L M + 1))) := by
  have H := Lib.hid h
  have H' := Lib.hid h'
  clear h h'
  go_enter Tryz.func99, Tryz.ntmps99
  go_wp2_with fail
  obtain ⟨W3, hW3⟩ : ∃ W3, W3 = (((w.alloc (.cells #[.bool false, sa] 105)).alloc (.cells #[.bool false, sb] 105)).alloc (.cells #[.bool false, .slice none 0 0] 105)) := ⟨_, rfl⟩
  have hBW : Below w.heap.size w W3.drew := by rw [hW3]; exact ((((Below.refl _ _).alloc (Nat.le_refl _) _).alloc (by simp) _).alloc (by simp; omega) _).drew
  have A3 := Lib.hid (H.out.below hBW)
  have B3 := Lib.hid (H'.out.below hBW)
  have HBW := Lib.hid hBW
  clear hBW
  subst hW3
  go_region_held3 (fun w' => w'.cell? ⟨w.heap.size, 0, none⟩ = some (.bool false) ∧ w'.cell? ⟨w.heap.size, 1, none⟩ = some sa ∧ w'.cell? ⟨w.heap.size + 1, 0, none⟩ = some (.bool false) ∧ w'.cell? ⟨w.heap.size + 1, 1, none⟩ = some sb)
    (first | exact boxes2s (boxes2 (hb1.trans (hb2.mono hb1.size))) | exact boxes2 (hb1.trans (hb2.mono hb1.size)) | exact boxes2 hb1 | go_keep)
    (first | (go_at_call 147; refine (radd_is A3.out B3.out hL hM).mono ?_; rintro e w1 ⟨v1, rfl, h1, hb1⟩)
           | (go_at_call 108; refine (rimake_ai h1.is).mono ?_; rintro e w2 ⟨v2, rfl, ⟨⟨s2, rfl, h2⟩, hs2⟩, hb2⟩; obtain ⟨ad, n, cap, rfl⟩ := h2.lit; obtain ⟨c0, c1, f0, f1⟩ := box_kept (((Below.refl _ _).drew).trans (hb1.trans (hb2.mono hb1.size))); rw [World.size_alloc, World.size_alloc] at c0 c1 f0 f1))
  obtain ⟨k0, k1⟩ := box_set (x' := .bool (decide (iv false (ma + mb) < 0))) (y' := .slice ad n cap) c0 c1
  go_wp2
  refine bodyPost_ret (ret_int rfl _ _ (w.heap.size + 1 + 1) _ _ rfl k0 k1) rfl ?_
  rw [← iv_add]
  exact ⟨_, rfl, ⟨⟨_, rfl, Sl.box h2 c0 c1⟩, hs2⟩, below_box (HBW.out.trans ((hb1.trans (hb2.mono hb1.size)).mono HBW.out.size)) (by omega)⟩
set_option maxRecDepth 100000 in
theorem riadd_bx_true {L M : Nat} {ma mb : Nat} {sa sb : Value} {w : World}  (h : Is ma L w sa) (h' : Is mb M w sb) (hL : L ≤ 4294967296) (hM : M ≤ 4294967296) :
    Calls Tryz.prog 99 #[.agg #[.bool true, sa], .agg #[.bool true, sb]] w (Ret w (CL (iv true ma + iv true mb) (max L M + 1))) := by
  have H := Lib.hid h
  have H' := Lib.hid h'
  clear h h'
  go_enter Tryz.func99, Tryz.ntmps99
  go_wp2_with fail
  obtain ⟨W3, hW3⟩ : ∃ W3, W3 = (((w.alloc (.cells #[.bool true, sa] 105)).alloc (.cells #[.bool true, sb] 105)).alloc (.cells #[.bool false, .slice none 0 0] 105)) := ⟨_, rfl⟩
  have hBW : Below w.heap.size w W3.drew := by rw [hW3]; exact ((((Below.refl _ _).alloc (Nat.le_refl _) _).alloc (by simp) _).alloc (by simp; omega) _).drew
  have A3 := Lib.hid (H.out.below hBW)
  have B3 := Lib.hid (H'.out.below hBW)
  have HBW := Lib.hid hBW
  clear hBW
  subst hW3
  go_region_held3 (fun w' => w'.cell? ⟨w.heap.size, 0, none⟩ = some (.bool true) ∧ w'.cell? ⟨w.heap.size, 1, none⟩ = some sa ∧ w'.cell? ⟨w.heap.size + 1, 0, none⟩ = some (.bool true) ∧ w'.cell? ⟨w.heap.size + 1, 1, none⟩ = some sb)
    (first | exact boxes2s (boxes2 (hb1.trans (hb2.mono hb1.size))) | exact boxes2 (hb1.trans (hb2.mono hb1.size)) | exact boxes2 hb1 | go_keep)
    (first | (go_at_call 147; refine (radd_is A3.out B3.out hL hM).mono ?_; rintro e w1 ⟨v1, rfl, h1, hb1⟩)
           | (go_at_call 108; refine (rimake_ai h1.is).mono ?_; rintro e w2 ⟨v2, rfl, ⟨⟨s2, rfl, h2⟩, hs2⟩, hb2⟩; obtain ⟨ad, n, cap, rfl⟩ := h2.lit; obtain ⟨c0, c1, f0, f1⟩ := box_kept (((Below.refl _ _).drew).trans (hb1.trans (hb2.mono hb1.size))); rw [World.size_alloc, World.size_alloc] at c0 c1 f0 f1))
  obtain ⟨k0, k1⟩ := box_set (x' := .bool (decide (iv true (ma + mb) < 0))) (y' := .slice ad n cap) c0 c1
  go_wp2
  refine bodyPost_ret (ret_int rfl _ _ (w.heap.size + 1 + 1) _ _ rfl k0 k1) rfl ?_
  rw [← iv_add]
  exact ⟨_, rfl, ⟨⟨_, rfl, Sl.box h2 c0 c1⟩, hs2⟩, below_box (HBW.out.trans ((hb1.trans (hb2.mono hb1.size)).mono HBW.out.size)) (by omega)⟩
end Go.Proofs.YtikglhmabidjoaaGreatDoor
