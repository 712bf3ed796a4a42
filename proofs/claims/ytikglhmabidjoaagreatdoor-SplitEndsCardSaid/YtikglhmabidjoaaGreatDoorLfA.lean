/- Lifted values: what a call's frame and memory hold, told as data; what keeps it. No program in sight. -/
import Derived.Test.YtikglhmabidjoaaGreatDoorBa
namespace Go.Proofs.YtikglhmabidjoaaGreatDoor.Lf
open Go.RowKit Nt
set_option linter.unusedVariables false
def look {β : Type} : List (Nat × β) → Nat → Option β
  | [], _ => none
  | (e, v) :: r, d => if e = d then some v else look r d
inductive D where
  | lit (v : Value)
  | lm (xs : List Nat)
  | sl (k : Nat) (xs : List (List D))
abbrev D.nat (n : Nat) : D := .lm (limbs n)
abbrev MS := Nat → Nat → Prop
def Fx (M : MS) (w : World) (b i : Nat) (v : Value) : Prop := ¬ M b i ∧ w.cell? ⟨b, i, none⟩ = some v
inductive RdD (M : MS) (w : World) : D → Value → Prop
  | lit (v : Value) : RdD M w (.lit v) v
  | lm (xs : List Nat) (v : Value) (h : Sl w v xs) (hm : ∀ b o l c, v = .slice (some ⟨b, o, none⟩) l c → ∀ i, i < l → ¬ M b (o + i)) : RdD M w (.lm xs) v
  | sl (k : Nat) (xs : List (List D)) (ad : Option Addr) (cap : Nat) (vs : Nat → Nat → Value) (hc : xs.length ≤ cap) (hl : xs.length ≤ 1099511627776)
      (h0 : 0 < xs.length → ∃ b o, ad = some ⟨b, o, none⟩ ∧ ∀ (i : Nat) (row : List D) (j : Nat) (d : D), xs[i]? = some row → row[j]? = some d → Fx M w b (o + i * k + j) (vs i j))
      (hk : ∀ (i : Nat) (row : List D), xs[i]? = some row → row.length = k)
      (h1 : ∀ i j, (vs i j).oneCell' = true)
      (hr : ∀ (i : Nat) (row : List D) (j : Nat) (d : D), xs[i]? = some row → row[j]? = some d → RdD M w d (vs i j)) : RdD M w (.sl k xs) (.slice ad xs.length cap)
inductive BA where
  | d (x : D)
  | ptr (key off : Nat)
inductive A where
  | d (x : D)
  | ptr (key off : Nat)
  | own (key k : Nat) (xs : List (List D))
  | elt (row : List D) (off : Nat)
  | fn (f : Fn) (first caps : List BA)
  | tab (key n : Nat)
  | mp (key : Nat)
inductive W where
  | s (x : A)
  | g (xs : List A)
inductive V where
  | a (x : A)
  | agg (xs : List A)
  | tup (xs : List W)
inductive Ent where
  | gone
  | box (t : TypeId) (cs : List A)
  | arr (e : TypeId) (k n : Nat)
  | tab (e : TypeId) (k : Nat) (rows : List (List D))
  | mp (φ : Obj → Prop)
def All2 {α β : Type} (R : α → β → Prop) : List α → List β → Prop
  | [], [] => True
  | x :: xs, y :: ys => R x y ∧ All2 R xs ys
  | _, _ => False
theorem All2.imp {α β : Type} {R S : α → β → Prop} (h : ∀ x y, R x y → S x y) : ∀ {xs : List α} {ys : List β}, All2 R xs ys → All2 S xs ys
  | [], [], _ => trivial
  | _ :: _, _ :: _, k => ⟨h _ _ k.1, All2.imp h k.2⟩
  | [], _ :: _, k => k.elim
  | _ :: _, [], k => k.elim
theorem All2.len {α β : Type} {R : α → β → Prop} : ∀ {xs : List α} {ys : List β}, All2 R xs ys → xs.length = ys.length
  | [], [], _ => rfl
  | _ :: _, _ :: _, k => congrArg (· + 1) (All2.len k.2)
  | [], _ :: _, k => k.elim
  | _ :: _, [], k => k.elim
theorem All2.get {α β : Type} {R : α → β → Prop} : ∀ {xs : List α} {ys : List β}, All2 R xs ys → ∀ {i : Nat} {x : α}, xs[i]? = some x → ∃ y, ys[i]? = some y ∧ R x y
  | [], [], _, i, x, h => by simp at h
  | x :: xs, y :: ys, k, 0, z, h => by simp at h; subst h; exact ⟨y, rfl, k.1⟩
  | x :: xs, y :: ys, k, i + 1, z, h => by simp at h ⊢; exact All2.get k.2 h
  | [], _ :: _, k, _, _, _ => k.elim
  | _ :: _, [], k, _, _, _ => k.elim
theorem All2.of_get {α β : Type} {R : α → β → Prop} : ∀ {xs : List α} {ys : List β}, xs.length = ys.length → (∀ (i : Nat) (x : α) (y : β), xs[i]? = some x → ys[i]? = some y → R x y) → All2 R xs ys
  | [], [], _, _ => trivial
  | x :: xs, y :: ys, hl, h => ⟨h 0 x y rfl rfl, All2.of_get (by simpa using hl) fun i a b ha hb => h (i + 1) a b (by simpa using ha) (by simpa using hb)⟩
  | [], _ :: _, hl, _ => by simp at hl
  | _ :: _, [], hl, _ => by simp at hl
theorem All2.app {α β : Type} {R : α → β → Prop} : ∀ {xs : List α} {ys : List β} {xs' : List α} {ys' : List β}, All2 R xs ys → All2 R xs' ys' → All2 R (xs ++ xs') (ys ++ ys')
  | [], [], _, _, _, k => k
  | _ :: _, _ :: _, _, _, h, k => ⟨h.1, All2.app h.2 k⟩
  | [], _ :: _, _, _, h, _ => h.elim
  | _ :: _, [], _, _, h, _ => h.elim
theorem All2.take {α β : Type} {R : α → β → Prop} : ∀ {xs : List α} {ys : List β} (n : Nat), All2 R xs ys → All2 R (xs.take n) (ys.take n)
  | _, _, 0, _ => by simp [All2]
  | [], [], _ + 1, _ => by simp [All2]
  | _ :: _, _ :: _, n + 1, h => ⟨h.1, All2.take n h.2⟩
  | [], _ :: _, _, h => h.elim
  | _ :: _, [], _, h => h.elim
theorem All2.drop {α β : Type} {R : α → β → Prop} : ∀ {xs : List α} {ys : List β} (n : Nat), All2 R xs ys → All2 R (xs.drop n) (ys.drop n)
  | _, _, 0, h => by simpa using h
  | [], [], _ + 1, _ => by simp [All2]
  | _ :: _, _ :: _, n + 1, h => by simpa using All2.drop n h.2
  | [], _ :: _, _, h => h.elim
  | _ :: _, [], _, h => h.elim
theorem All2.map {α β γ : Type} {R : γ → β → Prop} {f : α → γ} : ∀ {xs : List α} {ys : List β}, All2 (fun x y => R (f x) y) xs ys → All2 R (xs.map f) ys
  | [], [], _ => trivial
  | _ :: _, _ :: _, h => ⟨h.1, All2.map h.2⟩
  | [], _ :: _, h => h.elim
  | _ :: _, [], h => h.elim
def mpOk : Option Ent → Bool
  | some (.mp _) => true
  | some .gone => true
  | _ => false
abbrev Hp := Nat → Option Ent
abbrev Gh := Nat → Value
def ptrOk : Option Ent → Bool
  | some (.box _ _) => true
  | some .gone => true
  | some (.tab _ _ _) => true
  | _ => false
def RdB (γ : Gh) (h : Hp) (M : MS) (w : World) : BA → Value → Prop
  | .d x, v => RdD M w x v
  | .ptr key off, v => ptrOk (h key) = true ∧ ∃ g, γ key = .pointer (some ⟨g, 0, none⟩) ∧ v = .pointer (some ⟨g, off, none⟩)
def RdA (γ : Gh) (h : Hp) (M : MS) (w : World) : A → Value → Prop
  | .d x, v => RdD M w x v
  | .ptr key off, v => ptrOk (h key) = true ∧ ∃ g, γ key = .pointer (some ⟨g, 0, none⟩) ∧ v = .pointer (some ⟨g, off, none⟩)
  | .own key k xs, v => RdD M w (.sl k xs) v ∧ (h key).isSome = true ∧ ∀ e k' n, h key = some (.arr e k' n) → xs.length ≤ n ∧ (xs.length = n → v = γ key)
  | .elt row off, v => ∃ (b o : Nat) (vs : Nat → Value), v = .pointer (some ⟨b, o + off, none⟩) ∧ ∀ (j : Nat) d, row[j]? = some d → Fx M w b (o + j) (vs j) ∧ RdD M w d (vs j)
  | .fn f first caps, v => ∃ x y : List Value, v = .func f x.toArray y.toArray ∧ All2 (RdB γ h M w) first x ∧ All2 (RdB γ h M w) caps y
  | .tab key n, v => ptrOk (h key) = true ∧ (∃ g, γ key = .pointer (some ⟨g, 0, none⟩) ∧ v = .slice (some ⟨g, 0, none⟩) n n) ∧ ∀ e k rows, h key = some (.tab e k rows) → rows.length = n
  | .mp key, v => mpOk (h key) = true ∧ ∃ b, γ key = .map (some b) ∧ v = .map (some b)
def RdW (γ : Gh) (h : Hp) (M : MS) (w : World) : W → Value → Prop
  | .s x, v => RdA γ h M w x v
  | .g xs, v => ∃ vs : List Value, v = .agg vs.toArray ∧ All2 (RdA γ h M w) xs vs
def RdV (γ : Gh) (h : Hp) (M : MS) (w : World) : V → Value → Prop
  | .a x, v => RdA γ h M w x v
  | .agg xs, v => ∃ vs : List Value, v = .agg vs.toArray ∧ All2 (RdA γ h M w) xs vs
  | .tup ws, v => ∃ vs : List Value, v = .tuple vs.toArray ∧ All2 (RdW γ h M w) ws vs
def EntR (γ : Gh) (h : Hp) (M : MS) (w : World) (key : Nat) : Ent → Prop
  | .gone => True
  | .box t cs => ∃ g, ∃ vs : List Value, γ key = .pointer (some ⟨g, 0, none⟩) ∧ w.heap[g]? = some (.cells vs.toArray t (0, 0)) ∧ All2 (RdA γ h M w) cs vs
  | .arr e k n => ∃ xs, w.ownsRow 0 e k (γ key) n xs
  | .tab e k rows => ∃ g, ∃ vs : List Value, γ key = .pointer (some ⟨g, 0, none⟩) ∧ w.heap[g]? = some (.cells vs.toArray e (0, 0)) ∧ (∀ row ∈ rows, row.length = k) ∧ All2 (RdD M w) rows.flatten vs ∧ ∀ v ∈ vs, v.oneCell' = true
  | .mp φ => ∃ b o, γ key = .map (some b) ∧ w.heap[b]? = some o ∧ φ o ∧ ∃ es clock, o = .map es clock
def blk : Value → Option Nat
  | .pointer (some a) => some a.block
  | .slice (some a) _ _ => some a.block
  | .map (some b) => some b
  | _ => none
def Owns (γ : Gh) (h : Hp) (key b i : Nat) : Prop :=
  match h key with
  | some (.box _ _) => blk (γ key) = some b
  | some (.tab _ _ _) => blk (γ key) = some b
  | some (.mp _) => blk (γ key) = some b
  | some (.arr _ k n) => blk (γ key) = some b ∧ n * k ≤ i
  | _ => False
def live : Option Ent → Bool
  | some (.box _ _) => true
  | some (.arr _ _ _) => true
  | some (.tab _ _ _) => true
  | some (.mp _) => true
  | _ => false
def GT : Nat → Option (List D) := fun g => match g with | 0 => some [.lit (.int .i64 0), .lit (.int .i64 2), .lit (.int .i64 1), .lit (.int .i64 4), .lit (.int .i64 3)] | _ => none
def ZL : TypeId → Bool := fun t => t == 39 || t == 29
def Glb (M : MS) (w : World) : Prop := ∀ g row, GT g = some row → ∀ (j : Nat) d, row[j]? = some d → ∃ v, Fx M w g j v ∧ RdD M w d v
structure Rel (γ : Gh) (h : Hp) (M : MS) (w : World) : Prop where
  ent : ∀ key e, h key = some e → EntR γ h M w key e
  own : ∀ key b i, Owns γ h key b i → M b i
  inj : ∀ key key' b, live (h key) = true → live (h key') = true → blk (γ key) = some b → blk (γ key') = some b → key = key'
  u32 : ∀ b i n, M b i → w.cell? ⟨b, i, none⟩ ≠ some (.int .u32 n)
  dom : ∀ b i, M b i → b < w.heap.size
  glb : Glb M w
def Goes (e e' : Ent) : Prop :=
  match e, e' with
  | _, .gone => True
  | .box _ _, .box _ _ => True
  | .arr e k n, .arr e' k' n' => n ≤ n'
  | .tab _ _ rows, .tab _ _ rows' => rows'.length = rows.length
  | .mp _, .mp _ => True
  | _, _ => False
def Grown1 (e e' : Ent) : Prop :=
  match e, e' with
  | .arr _ _ n, .arr _ _ n' => n < n'
  | .arr _ _ _, .gone => True
  | _, _ => False
structure Stp (γ : Gh) (h : Hp) (M : MS) (w : World) (γ' : Gh) (h' : Hp) (M' : MS) (w' : World) : Prop where
  os : w'.os = w.os
  tape : w'.tape = w.tape
  output : w'.output = w.output
  size : w.heap.size ≤ w'.heap.size
  fx : ∀ b i v, Fx M w b i v → Fx M' w' b i v
  other : ∀ b, b < w.heap.size → (∀ key i, ¬ Owns γ h key b i) → w'.heap[b]? = w.heap[b]?
  keep : ∀ b i, M b i → (∀ key, ¬ Owns γ h key b i) → M' b i
  new : ∀ key b i, Owns γ' h' key b i → b < w.heap.size → ∃ key0, Owns γ h key0 b i
  key : ∀ key e, h key = some e → ∃ e', h' key = some e' ∧ Goes e e' ∧ (γ' key = γ key ∨ Grown1 e e')
theorem RdD.fx {M M' : MS} {w w' : World} (h : ∀ b i v, Fx M w b i v → Fx M' w' b i v) {d : D} {v : Value} (k : RdD M w d v) : RdD M' w' d v := by
  induction k with
  | lit v => exact .lit v
  | lm xs v hs hm =>
    obtain ⟨ad, l, c, hv, h1, h2, h3, h4, h5⟩ := hs
    have key : 0 < l → ∃ b off, ad = some ⟨b, off, none⟩ ∧ ∀ i, i < l → Fx M' w' b (off + i) (.int .u32 ((xs.getD i 0 : Nat) : Int)) := by
      intro h0
      obtain ⟨b, off, e, hb, hc⟩ := h5 h0
      exact ⟨b, off, e, fun i hi => h _ _ _ ⟨hm b off l c (by rw [hv, e]) i hi, hc i hi⟩⟩
    refine .lm xs v ⟨ad, l, c, hv, h1, h2, h3, h4, fun h0 => ?_⟩ ?_
    · obtain ⟨b, off, e, hc⟩ := key h0
      have := (hc 0 h0).2
      exact ⟨b, off, e, World.block_lt_of_cell? _ _ this, fun i hi => (hc i hi).2⟩
    · intro b o l' c' hv' i hi
      rw [hv] at hv'
      injection hv' with e1 e2 e3
      subst e2 e3
      obtain ⟨b2, off, e, hc⟩ := key (by omega)
      rw [e] at e1
      injection e1 with e1
      injection e1 with e4 e5
      subst e4 e5
      exact (hc i hi).1
  | sl k xs ad cap vs hc hl h0 hk h1 hr ih =>
    refine .sl k xs ad cap vs hc hl (fun h1 => ?_) hk h1 ih
    obtain ⟨b, o, e, hx⟩ := h0 h1
    exact ⟨b, o, e, fun i row j d hi hj => h _ _ _ (hx i row j d hi hj)⟩
theorem Glb.fx {M M' : MS} {w w' : World} (h : ∀ b i v, Fx M w b i v → Fx M' w' b i v) (k : Glb M w) : Glb M' w' :=
  fun g row hg j d hd => let ⟨v, h1, h2⟩ := k g row hg j d hd; ⟨v, h _ _ _ h1, RdD.fx h h2⟩
section
variable {γ γ' : Gh} {h h' : Hp} {M M' : MS} {w w' : World}
theorem ptrOk_key {key : Nat} (h1 : ptrOk (h key) = true) (s : Stp γ h M w γ' h' M' w') : ptrOk (h' key) = true ∧ γ' key = γ key := by
  cases he : h key with
  | none => rw [he] at h1; cases h1
  | some e =>
    obtain ⟨e', he', hg, hh⟩ := s.key key e he
    rw [he] at h1
    rw [he']
    cases e <;> cases e' <;> simp_all [ptrOk, Goes, Grown1]
theorem RdB.stp (s : Stp γ h M w γ' h' M' w') {x : BA} {v : Value} (k : RdB γ h M w x v) : RdB γ' h' M' w' x v := by
  cases x with
  | d x => exact RdD.fx s.fx k
  | ptr key off =>
    obtain ⟨h1, g, h2, h3⟩ := k
    obtain ⟨h4, h5⟩ := ptrOk_key h1 s
    exact ⟨h4, g, by rw [h5, h2], h3⟩
theorem RdA.stp (s : Stp γ h M w γ' h' M' w') {x : A} {v : Value} (k : RdA γ h M w x v) : RdA γ' h' M' w' x v := by
  cases x with
  | d x => exact RdD.fx s.fx k
  | ptr key off =>
    obtain ⟨h1, g, h2, h3⟩ := k
    obtain ⟨h4, h5⟩ := ptrOk_key h1 s
    exact ⟨h4, g, by rw [h5, h2], h3⟩
  | own key kk xs =>
    obtain ⟨h1, h2, h3⟩ := k
    obtain ⟨e, he⟩ := Option.isSome_iff_exists.1 h2
    obtain ⟨e', he', hg, hh⟩ := s.key key e he
    refine ⟨RdD.fx s.fx h1, by rw [he']; rfl, fun t k' n hn => ?_⟩
    rw [he'] at hn
    obtain rfl : e' = .arr t k' n := by simpa using hn
    cases e with
    | gone => exact hg.elim
    | box _ _ => exact hg.elim
    | tab => exact hg.elim
    | mp => exact hg.elim
    | arr t0 k0 n0 =>
      obtain ⟨h4, h5⟩ := h3 t0 k0 n0 he
      have hle : n0 ≤ n := hg
      refine ⟨Nat.le_trans h4 hle, fun e => ?_⟩
      rcases hh with hh | hh
      · rw [hh]; exact h5 (by omega)
      · have : n0 < n := hh
        omega
  | elt row off =>
    obtain ⟨b, o, vs, h1, h2⟩ := k
    exact ⟨b, o, vs, h1, fun j d hj => ⟨s.fx _ _ _ (h2 j d hj).1, RdD.fx s.fx (h2 j d hj).2⟩⟩
  | fn f first caps =>
    obtain ⟨x, y, h1, h2, h3⟩ := k
    exact ⟨x, y, h1, All2.imp (fun _ _ => RdB.stp s) h2, All2.imp (fun _ _ => RdB.stp s) h3⟩
  | tab key n =>
    obtain ⟨h1, ⟨g, h2, h3⟩, h4⟩ := k
    obtain ⟨h5, h6⟩ := ptrOk_key h1 s
    refine ⟨h5, ⟨g, by rw [h6, h2], h3⟩, fun e k rows he => ?_⟩
    cases h7 : h key with
    | none => rw [h7] at h1; cases h1
    | some e0 =>
      obtain ⟨e', e1, e2, _⟩ := s.key key e0 h7
      rw [he] at e1; injection e1 with e1; subst e1
      cases e0 with
      | tab t0 k0 rows0 => exact e2.trans (h4 _ _ _ h7)
      | gone => exact e2.elim
      | box => exact e2.elim
      | arr => exact e2.elim
      | mp => exact e2.elim
  | mp key =>
    obtain ⟨h1, b, h2, h3⟩ := k
    cases he : h key with
    | none => rw [he] at h1; cases h1
    | some e =>
      obtain ⟨e', he', hg, hh⟩ := s.key key e he
      rw [he] at h1
      have : mpOk (h' key) = true ∧ γ' key = γ key := by rw [he']; cases e <;> cases e' <;> simp_all [mpOk, Goes, Grown1]
      exact ⟨this.1, b, by rw [this.2, h2], h3⟩
theorem RdW.stp (s : Stp γ h M w γ' h' M' w') {x : W} {v : Value} (k : RdW γ h M w x v) : RdW γ' h' M' w' x v := by
  cases x with
  | s x => exact RdA.stp s k
  | g xs => obtain ⟨vs, h1, h2⟩ := k; exact ⟨vs, h1, All2.imp (fun _ _ => RdA.stp s) h2⟩
theorem RdV.stp (s : Stp γ h M w γ' h' M' w') {x : V} {v : Value} (k : RdV γ h M w x v) : RdV γ' h' M' w' x v := by
  cases x with
  | a x => exact RdA.stp s k
  | agg xs => obtain ⟨vs, h1, h2⟩ := k; exact ⟨vs, h1, All2.imp (fun _ _ => RdA.stp s) h2⟩
  | tup xs => obtain ⟨vs, h1, h2⟩ := k; exact ⟨vs, h1, All2.imp (fun _ _ => RdW.stp s) h2⟩
end
theorem Goes.refl (e : Ent) : Goes e e := by cases e <;> simp [Goes]
theorem Goes.trans {a b c : Ent} (h : Goes a b) (k : Goes b c) : Goes a c := by
  cases a <;> cases b <;> cases c <;> simp_all [Goes]
  omega
theorem Grown1.left {a b c : Ent} (h : Grown1 a b) (k : Goes b c) : Grown1 a c := by
  cases a <;> cases b <;> cases c <;> simp_all [Goes, Grown1]
  omega
theorem Grown1.right {a b c : Ent} (h : Goes a b) (k : Grown1 b c) : Grown1 a c := by
  cases a <;> cases b <;> cases c <;> simp_all [Goes, Grown1]
  omega
theorem Stp.refl (γ : Gh) (h : Hp) (M : MS) (w : World) : Stp γ h M w γ h M w :=
  ⟨rfl, rfl, rfl, Nat.le_refl _, fun _ _ _ k => k, fun _ _ _ => rfl, fun _ _ k _ => k, fun key b i k _ => ⟨key, k⟩, fun key e he => ⟨e, he, Goes.refl e, .inl rfl⟩⟩
theorem Stp.trans {γ γ' γ'' : Gh} {h h' h'' : Hp} {M M' M'' : MS} {w w' w'' : World} (s : Stp γ h M w γ' h' M' w') (t : Stp γ' h' M' w' γ'' h'' M'' w'') (hd : ∀ b i, M b i → b < w.heap.size) : Stp γ h M w γ'' h'' M'' w'' := by
  refine ⟨t.os.trans s.os, t.tape.trans s.tape, t.output.trans s.output, Nat.le_trans s.size t.size, fun b i v k => t.fx _ _ _ (s.fx _ _ _ k), fun b hb hn => ?_, fun b i hm hn => ?_, fun key b i ho hb => ?_, fun key e he => ?_⟩
  · refine (t.other b (Nat.lt_of_lt_of_le hb s.size) fun key i ho => ?_).trans (s.other b hb hn)
    obtain ⟨k0, h0⟩ := s.new key b i ho hb
    exact hn k0 i h0
  · refine t.keep b i (s.keep b i hm hn) fun key ho => ?_
    obtain ⟨k0, h0⟩ := s.new key b i ho (hd b i hm)
    exact hn k0 h0
  · obtain ⟨k1, h1⟩ := t.new key b i ho (Nat.lt_of_lt_of_le hb s.size)
    exact s.new k1 b i h1 hb
  · obtain ⟨e1, a1, a2, a3⟩ := s.key key e he
    obtain ⟨e2, b1, b2, b3⟩ := t.key key e1 a1
    refine ⟨e2, b1, a2.trans b2, ?_⟩
    rcases a3 with a3 | a3
    · rcases b3 with b3 | b3
      · exact .inl (b3.trans a3)
      · exact .inr (Grown1.right a2 b3)
    · exact .inr (Grown1.left a3 b2)
end Go.Proofs.YtikglhmabidjoaaGreatDoor.Lf
