/- Lifted values: calls. No program in sight. -/
import Derived.Test.YtikglhmabidjoaaGreatDoorLfD
namespace Go.Proofs.YtikglhmabidjoaaGreatDoor.Lf
open Go.RowKit Nt
set_option linter.unusedVariables false
set_option linter.unusedSimpArgs false
def LC (P : Program) (f : FuncId) (args : List V) (H : List (Nat × Ent)) (v : V) (H' : List (Nat × Ent)) : Prop :=
  ∀ (γ : Gh) (M : MS) (w : World) (rs : List Value), Rel γ (look H) M w → All2 (RdV γ (look H) M w) args rs →
    Calls P f rs.toArray w fun e w' => ∃ r γ' M', e = .returned r ∧ Rel γ' (look H') M' w' ∧ RdV γ' (look H') M' w' v r ∧ Stp γ (look H) M w γ' (look H') M' w'
def renB (f : Nat → Nat) : BA → BA
  | .ptr k o => .ptr (f k) o
  | x => x
def renA (f : Nat → Nat) : A → A
  | .ptr k o => .ptr (f k) o
  | .own k s xs => .own (f k) s xs
  | .fn g xs ys => .fn g (xs.map (renB f)) (ys.map (renB f))
  | .tab k n => .tab (f k) n
  | .mp k => .mp (f k)
  | x => x
def renW (f : Nat → Nat) : W → W
  | .s x => .s (renA f x)
  | .g xs => .g (xs.map (renA f))
def renV (f : Nat → Nat) : V → V
  | .a x => .a (renA f x)
  | .agg xs => .agg (xs.map (renA f))
  | .tup xs => .tup (xs.map (renW f))
def keysB : BA → List Nat
  | .ptr k _ => [k]
  | _ => []
def keysA : A → List Nat
  | .ptr k _ => [k]
  | .own k _ _ => [k]
  | .fn _ xs ys => xs.flatMap keysB ++ ys.flatMap keysB
  | .tab k _ => [k]
  | .mp k => [k]
  | _ => []
def keysW : W → List Nat
  | .s x => keysA x
  | .g xs => xs.flatMap keysA
def keysV : V → List Nat
  | .a x => keysA x
  | .agg xs => xs.flatMap keysA
  | .tup xs => xs.flatMap keysW
def stripA : A → A
  | .own _ k xs => .d (.sl k xs)
  | x => x
def lendE : Ent → Option Ent
  | .box t cs => if (cs.map stripA).all (fun x => (keysA x).isEmpty) then some (.box t (cs.map stripA)) else none
  | e => some e
def lendFrom (h : Hp) : Nat → List Nat → Option (List (Nat × Ent))
  | _, [] => some []
  | i, k :: ks => match (h k).bind lendE, lendFrom h (i + 1) ks with
    | some e, some r => some ((i, e) :: r)
    | _, _ => none
def back (ks : List Nat) (base : Nat) (i : Nat) : Nat := if i < ks.length then ks.getD i 0 else base + (i - ks.length)
def noKeys : Ent → Bool
  | .box _ cs => cs.all fun x => (keysA x).isEmpty
  | _ => true
section
variable {γ γ' : Gh} {h h' : Hp} {M M' : MS} {w w' : World} {T T' : Nat → Option V} {a : Act} {P : Program}
theorem RdA.strip {x : A} {v : Value} (k : RdA γ h M w x v) : RdA γ h M w (stripA x) v := by
  cases x <;> first | exact k | exact k.1
def SameKey (f : Nat → Nat) (γ : Gh) (h : Hp) (γ' : Gh) (h' : Hp) (key : Nat) : Prop :=
  γ' (f key) = γ key ∧ (ptrOk (h key) = true → ptrOk (h' (f key)) = true) ∧ (mpOk (h key) = true → mpOk (h' (f key)) = true) ∧ ((h key).isSome = true → (h' (f key)).isSome = true) ∧ (∀ e k n, h' (f key) = some (.arr e k n) → h key = some (.arr e k n)) ∧ ∀ e k n, h' (f key) = some (.tab e k n) → ∃ n', h key = some (.tab e k n') ∧ n.length = n'.length
theorem RdB.ren {f : Nat → Nat} {x : BA} {v : Value} (k : RdB γ h M w x v) (hs : ∀ key ∈ keysB x, SameKey f γ h γ' h' key) : RdB γ' h' M w (renB f x) v := by
  cases x with
  | d x => exact k
  | ptr key off =>
    obtain ⟨h1, g, h2, h3⟩ := k
    obtain ⟨s1, s2, _⟩ := hs key (by simp [keysB])
    exact ⟨s2 h1, g, by rw [s1, h2], h3⟩
theorem All2.renB {f : Nat → Nat} : ∀ {xs : List BA} {vs : List Value}, All2 (RdB γ h M w) xs vs → (∀ key ∈ xs.flatMap keysB, SameKey f γ h γ' h' key) → All2 (RdB γ' h' M w) (xs.map (renB f)) vs
  | [], [], _, _ => trivial
  | x :: xs, v :: vs, k, hs => ⟨k.1.ren fun key hk => hs key (by simp [hk]), All2.renB k.2 fun key hk => hs key (by simp at hk ⊢; exact .inr hk)⟩
  | [], _ :: _, k, _ => k.elim
  | _ :: _, [], k, _ => k.elim
theorem RdA.ren {f : Nat → Nat} {x : A} {v : Value} (k : RdA γ h M w x v) (hs : ∀ key ∈ keysA x, SameKey f γ h γ' h' key) : RdA γ' h' M w (renA f x) v := by
  cases x with
  | d x => exact k
  | ptr key off =>
    obtain ⟨h1, g, h2, h3⟩ := k
    obtain ⟨s1, s2, _⟩ := hs key (by simp [keysA])
    exact ⟨s2 h1, g, by rw [s1, h2], h3⟩
  | own key kk xs =>
    obtain ⟨h1, h2, h3⟩ := k
    obtain ⟨s1, _, _, s3, s4, _⟩ := hs key (by simp [keysA])
    exact ⟨h1, s3 h2, fun e k n he => by rw [s1]; exact h3 e k n (s4 e k n he)⟩
  | elt row off => exact k
  | fn g xs ys =>
    obtain ⟨x, y, h1, h2, h3⟩ := k
    exact ⟨x, y, h1, h2.renB fun key hk => hs key (by simp only [keysA, List.mem_append]; exact .inl hk), h3.renB fun key hk => hs key (by simp only [keysA, List.mem_append]; exact .inr hk)⟩
  | tab key n =>
    obtain ⟨h1, ⟨g, h2, h3⟩, h4⟩ := k
    obtain ⟨s1, s2, _, _, _, s5⟩ := hs key (by simp [keysA])
    exact ⟨s2 h1, ⟨g, by rw [s1, h2], h3⟩, fun e k rows he => let ⟨n', e1, e2⟩ := s5 e k rows he; e2.trans (h4 e k n' e1)⟩
  | mp key =>
    obtain ⟨h1, b, h2, h3⟩ := k
    obtain ⟨s1, _, s2, _⟩ := hs key (by simp [keysA])
    exact ⟨s2 h1, b, by rw [s1, h2], h3⟩
theorem All2.renA {f : Nat → Nat} : ∀ {xs : List A} {vs : List Value}, All2 (RdA γ h M w) xs vs → (∀ key ∈ xs.flatMap keysA, SameKey f γ h γ' h' key) → All2 (RdA γ' h' M w) (xs.map (renA f)) vs
  | [], [], _, _ => trivial
  | x :: xs, v :: vs, k, hs => ⟨k.1.ren fun key hk => hs key (by simp [hk]), All2.renA k.2 fun key hk => hs key (by simp at hk ⊢; exact .inr hk)⟩
  | [], _ :: _, k, _ => k.elim
  | _ :: _, [], k, _ => k.elim
theorem RdW.ren {f : Nat → Nat} {x : W} {v : Value} (k : RdW γ h M w x v) (hs : ∀ key ∈ keysW x, SameKey f γ h γ' h' key) : RdW γ' h' M w (renW f x) v := by
  cases x with
  | s x => exact RdA.ren k hs
  | g xs => obtain ⟨vs, h1, h2⟩ := k; exact ⟨vs, h1, h2.renA hs⟩
theorem All2.renW {f : Nat → Nat} : ∀ {xs : List W} {vs : List Value}, All2 (RdW γ h M w) xs vs → (∀ key ∈ xs.flatMap keysW, SameKey f γ h γ' h' key) → All2 (RdW γ' h' M w) (xs.map (renW f)) vs
  | [], [], _, _ => trivial
  | x :: xs, v :: vs, k, hs => ⟨k.1.ren fun key hk => hs key (by simp [hk]), All2.renW k.2 fun key hk => hs key (by simp at hk ⊢; exact .inr hk)⟩
  | [], _ :: _, k, _ => k.elim
  | _ :: _, [], k, _ => k.elim
theorem RdV.ren {f : Nat → Nat} {x : V} {v : Value} (k : RdV γ h M w x v) (hs : ∀ key ∈ keysV x, SameKey f γ h γ' h' key) : RdV γ' h' M w (renV f x) v := by
  cases x with
  | a x => exact RdA.ren k hs
  | agg xs => obtain ⟨vs, h1, h2⟩ := k; exact ⟨vs, h1, h2.renA hs⟩
  | tup xs => obtain ⟨vs, h1, h2⟩ := k; exact ⟨vs, h1, h2.renW hs⟩
theorem All2.renV {f : Nat → Nat} : ∀ {xs : List V} {vs : List Value}, All2 (RdV γ h M w) xs vs → (∀ key ∈ xs.flatMap keysV, SameKey f γ h γ' h' key) → All2 (RdV γ' h' M w) (xs.map (renV f)) vs
  | [], [], _, _ => trivial
  | x :: xs, v :: vs, k, hs => ⟨k.1.ren fun key hk => hs key (by simp [hk]), All2.renV k.2 fun key hk => hs key (by simp at hk ⊢; exact .inr hk)⟩
  | [], _ :: _, k, _ => k.elim
  | _ :: _, [], k, _ => k.elim
theorem RdB.there {x : BA} {v : Value} (k : RdB γ h M w x v) : ∀ key ∈ keysB x, (h key).isSome = true := by
  cases x with
  | d x => intro key hk; simp [keysB] at hk
  | ptr k0 off =>
    intro key hk
    simp [keysB] at hk; subst hk
    have := k.1
    cases hh : h key with
    | none => rw [hh] at this; cases this
    | some e => rfl
theorem there_list {α : Type} {R : α → Value → Prop} {ks : α → List Nat} (hR : ∀ x v, R x v → ∀ key ∈ ks x, (h key).isSome = true) : ∀ {xs : List α} {vs : List Value}, All2 R xs vs → ∀ key ∈ xs.flatMap ks, (h key).isSome = true
  | [], [], _, key, hk => by simp at hk
  | x :: xs, v :: vs, k, key, hk => by
    rw [List.flatMap_cons] at hk
    rcases List.mem_append.1 hk with hk | hk
    · exact hR x v k.1 key hk
    · exact there_list hR k.2 key hk
  | [], _ :: _, k, _, _ => k.elim
  | _ :: _, [], k, _, _ => k.elim
theorem RdA.there {x : A} {v : Value} (k : RdA γ h M w x v) : ∀ key ∈ keysA x, (h key).isSome = true := by
  cases x with
  | d x => intro key hk; simp [keysA] at hk
  | elt => intro key hk; simp [keysA] at hk
  | ptr k0 off => exact RdB.there (x := .ptr k0 off) (M := M) (w := w) (v := v) k
  | own k0 _ _ => intro key hk; simp [keysA] at hk; subst hk; exact k.2.1
  | fn g xs ys =>
    obtain ⟨x, y, h1, h2, h3⟩ := k
    intro key hk
    simp only [keysA, List.mem_append] at hk
    rcases hk with hk | hk
    · exact there_list (R := RdB γ h M w) (ks := keysB) (fun _ _ => RdB.there) h2 key hk
    · exact there_list (R := RdB γ h M w) (ks := keysB) (fun _ _ => RdB.there) h3 key hk
  | tab k0 n => exact RdB.there (x := .ptr k0 0) (M := M) (w := w) (v := .pointer (some ⟨k.2.1.choose, 0, none⟩)) ⟨k.1, _, k.2.1.choose_spec.1, rfl⟩
  | mp k0 =>
    intro key hk
    simp [keysA] at hk; subst hk
    have := k.1
    cases hh : h key with
    | none => rw [hh] at this; cases this
    | some e => rfl
theorem RdW.there {x : W} {v : Value} (k : RdW γ h M w x v) : ∀ key ∈ keysW x, (h key).isSome = true := by
  cases x with
  | s x => exact RdA.there k
  | g xs => obtain ⟨vs, h1, h2⟩ := k; exact there_list (R := RdA γ h M w) (ks := keysA) (fun _ _ => RdA.there) h2
theorem RdV.there {x : V} {v : Value} (k : RdV γ h M w x v) : ∀ key ∈ keysV x, (h key).isSome = true := by
  cases x with
  | a x => exact RdA.there k
  | agg xs => obtain ⟨vs, h1, h2⟩ := k; exact there_list (R := RdA γ h M w) (ks := keysA) (fun _ _ => RdA.there) h2
  | tup xs => obtain ⟨vs, h1, h2⟩ := k; exact there_list (R := RdW γ h M w) (ks := keysW) (fun _ _ => RdW.there) h2
theorem look_map {f : Nat → Nat} (hf : ∀ i j, f i = f j → i = j) : ∀ (H : List (Nat × Ent)) (i : Nat), look (H.map fun p => (f p.1, p.2)) (f i) = look H i
  | [], _ => rfl
  | (j, e) :: r, i => by
    simp only [List.map_cons, look]
    by_cases hj : j = i
    · subst hj; simp
    · rw [if_neg hj, if_neg fun h => hj (hf _ _ h), look_map hf r i]
theorem look_mem {β : Type} : ∀ {H : List (Nat × β)} {i : Nat} {e : β}, look H i = some e → (i, e) ∈ H
  | (j, x) :: r, i, e, hl => by
    simp only [look] at hl
    split at hl
    · rename_i hj; subst hj; injection hl with hl; subst hl; simp
    · exact List.mem_cons_of_mem _ (look_mem hl)
theorem getD_lt {α : Type} {l : List α} {i : Nat} {d : α} (hi : i < l.length) : l.getD i d = l[i] := by simp [List.getD, hi]
theorem nodup_inj {l : List Nat} (hn : l.Nodup) {i j : Nat} (hi : i < l.length) (hj : j < l.length) (h : l[i] = l[j]) : i = j := by
  have hp := List.pairwise_iff_getElem.1 hn
  rcases Nat.lt_trichotomy i j with h1 | h1 | h1
  · exact absurd h (hp i j hi hj h1)
  · exact h1
  · exact absurd h.symm (hp j i hj hi h1)
theorem back_inj {ks : List Nat} {base : Nat} (hn : ks.Nodup) (hb : ∀ k ∈ ks, k < base) : ∀ i j, back ks base i = back ks base j → i = j := by
  intro i j hij
  unfold back at hij
  by_cases hi : i < ks.length <;> by_cases hj : j < ks.length
  · rw [if_pos hi, if_pos hj] at hij
    rw [getD_lt hi, getD_lt hj] at hij
    exact nodup_inj hn hi hj hij
  · rw [if_pos hi, if_neg hj, getD_lt hi] at hij
    have := hb _ (List.getElem_mem hi); omega
  · rw [if_neg hi, if_pos hj, getD_lt hj] at hij
    have := hb _ (List.getElem_mem hj); omega
  · rw [if_neg hi, if_neg hj] at hij; omega
theorem lendFrom_ok {h : Hp} : ∀ {ks : List Nat} {i : Nat} {Hs : List (Nat × Ent)}, lendFrom h i ks = some Hs →
    (∀ j, j < ks.length → ∃ e e', h (ks.getD j 0) = some e ∧ lendE e = some e' ∧ look Hs (i + j) = some e') ∧ ∀ j e, look Hs j = some e → i ≤ j ∧ j < i + ks.length
  | [], i, Hs, hl => by simp [lendFrom] at hl; subst hl; exact ⟨fun j hj => by simp at hj, fun j e he => by cases he⟩
  | k :: ks, i, Hs, hl => by
    simp only [lendFrom] at hl
    split at hl
    · rename_i e' r h1 h2
      injection hl with hl; subst hl
      obtain ⟨e, he, hle⟩ := Option.bind_eq_some_iff.1 h1
      obtain ⟨q1, q2⟩ := lendFrom_ok h2
      refine ⟨fun j hj => ?_, fun j e2 he2 => ?_⟩
      · cases j with
        | zero => exact ⟨e, e', by simpa using he, hle, by simp [look]⟩
        | succ j =>
          obtain ⟨x, x', y1, y2, y3⟩ := q1 j (by simpa using hj)
          refine ⟨x, x', by simpa using y1, y2, ?_⟩
          simp only [look]
          rw [if_neg (by omega), show i + (j + 1) = i + 1 + j from by omega]; exact y3
      · simp only [look] at he2
        split at he2
        · simp; omega
        · have := q2 j e2 he2; simp; omega
    · cases hl
theorem owns_lend {ks : List Nat} {Hs : List (Nat × Ent)} (hl : lendFrom h 0 ks = some Hs) {i b c : Nat} : Owns (fun i => γ (ks.getD i 0)) (look Hs) i b c → Owns γ h (ks.getD i 0) b c := by
  intro ho
  obtain ⟨q1, q2⟩ := lendFrom_ok hl
  unfold Owns at ho
  cases he : look Hs i with
  | none => rw [he] at ho; exact ho.elim
  | some e' =>
    have hi := (q2 i e' he).2
    obtain ⟨e, e2, y1, y2, y3⟩ := q1 i (by omega)
    rw [Nat.zero_add, he] at y3; injection y3 with y3; subst y3
    rw [he] at ho
    unfold Owns
    rw [y1]
    cases e <;> simp only [lendE] at y2
    · injection y2 with y2; subst y2; exact ho.elim
    · split at y2
      · injection y2 with y2; subst y2; exact ho
      · cases y2
    · injection y2 with y2; subst y2; exact ho
    · injection y2 with y2; subst y2; exact ho
    · injection y2 with y2; subst y2; exact ho
theorem rel_lend (r : Rel γ h M w) {ks : List Nat} {Hs : List (Nat × Ent)} (hn : ks.Nodup) (hl : lendFrom h 0 ks = some Hs) : Rel (fun i => γ (ks.getD i 0)) (look Hs) M w := by
  obtain ⟨q1, q2⟩ := lendFrom_ok hl
  have hlive : ∀ i, live (look Hs i) = true → i < ks.length ∧ live (h (ks.getD i 0)) = true := by
    intro i hi
    cases he : look Hs i with
    | none => rw [he] at hi; cases hi
    | some e' =>
      have hi' := (q2 i e' he).2
      obtain ⟨e, e2, y1, y2, y3⟩ := q1 i (by omega)
      rw [Nat.zero_add, he] at y3; injection y3 with y3; subst y3
      rw [he] at hi
      refine ⟨by omega, ?_⟩
      rw [y1]
      cases e <;> simp only [lendE] at y2
      · injection y2 with y2; subst y2; exact hi
      · rfl
      · rfl
      · rfl
      · rfl
  refine ⟨fun i e' he => ?_, fun i b c ho => r.own _ b c (owns_lend hl ho), fun i j b l1 l2 b1 b2 => ?_, r.u32, r.dom, r.glb⟩
  · have hi := (q2 i e' he).2
    obtain ⟨e, e2, y1, y2, y3⟩ := q1 i (by omega)
    rw [Nat.zero_add, he] at y3; injection y3 with y3; subst y3
    have hr := r.ent _ e y1
    cases e <;> simp only [lendE] at y2
    · injection y2 with y2; subst y2; trivial
    · rename_i t cs
      split at y2
      · rename_i hk
        injection y2 with y2; subst y2
        obtain ⟨g, vs, k1, k2, k3⟩ := hr
        refine ⟨g, vs, k1, k2, ?_⟩
        have k4 : All2 (RdA γ h M w) (cs.map stripA) vs := All2.map (All2.imp (fun _ _ => RdA.strip) k3)
        have k5 : All2 (RdA (fun i => γ (ks.getD i 0)) (look Hs) M w) ((cs.map stripA).map (renA id)) vs := by
          refine All2.renA k4 fun key hkk => ?_
          obtain ⟨x, hx, hkx⟩ := List.mem_flatMap.1 hkk
          have := List.all_eq_true.1 hk x hx
          rw [List.isEmpty_iff] at this
          rw [this] at hkx; cases hkx
        have hid : ∀ x ∈ cs.map stripA, renA id x = x := by
          intro x hx
          cases x <;> simp [renA]
          rename_i f xs ys
          have hb : ∀ y : BA, renB id y = y := fun y => by cases y <;> rfl
          have hl : ∀ l : List BA, l.map (renB id) = l := fun l => by rw [show (renB id) = id from funext hb]; simp
          rw [hl, hl]; exact ⟨rfl, rfl⟩
        rw [List.map_congr_left hid, List.map_id'] at k5
        exact k5
      · cases y2
    · injection y2 with y2; subst y2; exact hr
    · injection y2 with y2; subst y2; exact hr
    · injection y2 with y2; subst y2; exact hr
  · obtain ⟨i1, l1'⟩ := hlive i l1
    obtain ⟨j1, l2'⟩ := hlive j l2
    have := r.inj _ _ b l1' l2' b1 b2
    rw [getD_lt i1, getD_lt j1] at this
    exact nodup_inj hn i1 j1 this
theorem back_call (r : Rel γ h M w) {ks : List Nat} {base : Nat} {Hs H1 : List (Nat × Ent)} (hn : ks.Nodup) (hb : ∀ k ∈ ks, k < base) (hl : lendFrom h 0 ks = some Hs) (hkeys : H1.all (fun p => noKeys p.2) = true) (hfresh : ∀ p ∈ H1, ks.length ≤ p.1 → h (back ks base p.1) = none)
    {γ1 : Gh} {M1 : MS} {w1 : World} (r1 : Rel γ1 (look H1) M1 w1) (s1 : Stp (fun i => γ (ks.getD i 0)) (look Hs) M w γ1 (look H1) M1 w1) :
    ∃ γ', Rel γ' (over (H1.map fun p => (back ks base p.1, p.2)) h) M1 w1 ∧ Stp γ h M w γ' (over (H1.map fun p => (back ks base p.1, p.2)) h) M1 w1 ∧
      ∀ v r, RdV γ1 (look H1) M1 w1 v r → RdV γ' (over (H1.map fun p => (back ks base p.1, p.2)) h) M1 w1 (renV (back ks base) v) r := by
  have hinj := back_inj hn hb
  obtain ⟨q1, q2⟩ := lendFrom_ok hl
  obtain ⟨S, hS⟩ : ∃ S, S = over (H1.map fun p => (back ks base p.1, p.2)) h := ⟨_, rfl⟩
  have hSb : ∀ i e, look H1 i = some e → S (back ks base i) = some e := by
    intro i e he; rw [hS]; unfold over; rw [look_map hinj, he]
  have hSo : ∀ key, (∀ i, (look H1 i).isSome = true → back ks base i ≠ key) → S key = h key := by
    intro key hk
    rw [hS]; unfold over
    cases hq : look (H1.map fun p => (back ks base p.1, p.2)) key with
    | none => rfl
    | some e =>
      exfalso
      obtain ⟨p, hp, he⟩ := List.mem_map.1 (look_mem hq)
      injection he with he1 he2
      rw [← he1, look_map hinj] at hq
      exact hk p.1 (by rw [hq]; rfl) he1
  classical
  obtain ⟨γ', hγ⟩ : ∃ γ' : Gh, (∀ i, (look H1 i).isSome = true → γ' (back ks base i) = γ1 i) ∧ ∀ key, (∀ i, (look H1 i).isSome = true → back ks base i ≠ key) → γ' key = γ key := by
    refine ⟨fun key => if hq : ∃ i, (look H1 i).isSome = true ∧ back ks base i = key then γ1 hq.choose else γ key, fun i hi => ?_, fun key hk => ?_⟩
    · have hq : ∃ j, (look H1 j).isSome = true ∧ back ks base j = back ks base i := ⟨i, hi, rfl⟩
      simp only [dif_pos hq]
      rw [hinj _ _ hq.choose_spec.2]
    · have hq : ¬ ∃ i, (look H1 i).isSome = true ∧ back ks base i = key := fun ⟨i, hi, he⟩ => hk i hi he
      simp only [dif_neg hq]
  obtain ⟨hγb, hγo⟩ := hγ
  have hbk : ∀ i, i < ks.length → back ks base i = ks.getD i 0 := fun i hi => if_pos hi
  -- a key of the caller's is the callee's, or is not
  have hcase : ∀ key, (∃ i e, look H1 i = some e ∧ back ks base i = key) ∨ ∀ i, (look H1 i).isSome = true → back ks base i ≠ key := by
    intro key
    by_cases hq : ∃ i, (look H1 i).isSome = true ∧ back ks base i = key
    · obtain ⟨i, hi, he⟩ := hq
      obtain ⟨e, hee⟩ := Option.isSome_iff_exists.1 hi
      exact .inl ⟨i, e, hee, he⟩
    · exact .inr fun i hi he => hq ⟨i, hi, he⟩
  have hown1 : ∀ i e b c, look H1 i = some e → (Owns γ' S (back ks base i) b c ↔ Owns γ1 (look H1) i b c) := by
    intro i e b c he
    unfold Owns
    rw [hSb i e he, he, hγb i (by rw [he]; rfl)]
  have hown2 : ∀ key b c, (∀ i, (look H1 i).isSome = true → back ks base i ≠ key) → (Owns γ' S key b c ↔ Owns γ h key b c) := fun key b c hk => owns_congr (hγo key hk) (hSo key hk)
  have hold : ∀ i, i < ks.length → ∃ e, look H1 i = some e := by
    intro i hi
    obtain ⟨e, e', y1, y2, y3⟩ := q1 i hi
    rw [Nat.zero_add] at y3
    obtain ⟨e2, z1, _⟩ := s1.key i e' y3
    exact ⟨e2, z1⟩
  -- what a key that is not lent owns, no lent key owns
  have hother : ∀ key b, live (h key) = true → blk (γ key) = some b → (∀ i, (look H1 i).isSome = true → back ks base i ≠ key) → ∀ i c, ¬ Owns (fun i => γ (ks.getD i 0)) (look Hs) i b c := by
    intro key b hlv hbb hk i c ho
    have ho' := owns_lend hl ho
    obtain ⟨l1, l2⟩ := owns_live ho'
    have e1 := r.inj _ _ b l1 hlv l2 hbb
    have hi : i < ks.length := by
      have := (owns_live ho).1
      cases he : look Hs i with
      | none => rw [he] at this; cases this
      | some e => have := (q2 i e he).2; omega
    obtain ⟨e, he⟩ := hold i hi
    exact hk i (by rw [he]; rfl) (by rw [hbk i hi, e1])
  have hstp : Stp γ h M w γ' S M1 w1 := by
    refine ⟨s1.os, s1.tape, s1.output, s1.size, s1.fx, fun b hb hno => s1.other b hb fun i c ho => hno _ c (owns_lend hl ho), fun b c hm hno => s1.keep b c hm fun i ho => hno _ (owns_lend hl ho), fun key b c ho hb => ?_, fun key e he => ?_⟩
    · rcases hcase key with ⟨i, e, he, rfl⟩ | hk
      · obtain ⟨j, hj⟩ := s1.new i b c ((hown1 i e b c he).1 ho) hb
        exact ⟨_, owns_lend hl hj⟩
      · exact ⟨key, (hown2 key b c hk).1 ho⟩
    · rcases hcase key with ⟨i, e1, he1, hbi⟩ | hk
      · by_cases hi : i < ks.length
        · obtain ⟨e0, e', y1, y2, y3⟩ := q1 i hi
          rw [Nat.zero_add] at y3
          have hkey : key = ks.getD i 0 := by rw [← hbi, hbk i hi]
          rw [hkey, y1] at he; injection he with he; subst he
          obtain ⟨e2, z1, z2, z3⟩ := s1.key i e' y3
          rw [he1] at z1; injection z1 with z1; subst z1
          refine ⟨e1, by rw [← hbi]; exact hSb i e1 he1, ?_, ?_⟩
          · cases e0 <;> simp only [lendE] at y2
            · injection y2 with y2; subst y2; exact z2
            · split at y2
              · injection y2 with y2; subst y2; cases e1 <;> exact z2
              · cases y2
            · injection y2 with y2; subst y2; exact z2
            · injection y2 with y2; subst y2; exact z2
            · injection y2 with y2; subst y2; exact z2
          · rw [← hbi, hγb i (by rw [he1]; rfl), hbk i hi]
            rcases z3 with z3 | z3
            · exact .inl z3
            · right
              cases e0 <;> simp only [lendE] at y2
              · injection y2 with y2; subst y2; exact z3
              · split at y2
                · injection y2 with y2; subst y2; cases e1 <;> exact z3
                · cases y2
              · injection y2 with y2; subst y2; exact z3
              · injection y2 with y2; subst y2; exact z3
              · injection y2 with y2; subst y2; exact z3
        · have := hfresh (i, e1) (look_mem he1) (by simpa using hi)
          simp only at this
          rw [hbi, he] at this; cases this
      · exact ⟨e, by rw [hSo key hk]; exact he, Goes.refl _, .inl (hγo key hk)⟩
  have hsame : ∀ i, (look H1 i).isSome = true → SameKey (back ks base) γ1 (look H1) γ' S i := by
    intro i hi
    obtain ⟨e, he⟩ := Option.isSome_iff_exists.1 hi
    refine ⟨hγb i hi, fun hp => by rw [hSb i e he, ← he]; exact hp, fun hp => by rw [hSb i e he, ← he]; exact hp, fun _ => by rw [hSb i e he]; rfl, fun e1 k n hq => by rw [hSb i e he] at hq; rw [he]; exact hq, fun e1 k n hq => by rw [hSb i e he] at hq; exact ⟨n, by rw [he]; exact hq, rfl⟩⟩
  rw [← hS]
  refine ⟨γ', ⟨fun key e he => ?_, fun key b c ho => ?_, fun key1 key2 b l1 l2 b1 b2 => ?_, r1.u32, r1.dom, r1.glb⟩, hstp, fun v x hv => hv.ren fun key hk => hsame key (RdV.there hv key hk)⟩
  · rcases hcase key with ⟨i, e1, he1, rfl⟩ | hk
    · rw [hSb i e1 he1] at he; injection he with he; subst he
      have he2 := r1.ent i e1 he1
      cases e1 with
      | gone => trivial
      | tab e k rows =>
        obtain ⟨g, vs, k1, k2⟩ := he2
        exact ⟨g, vs, by rw [hγb i (by rw [he1]; rfl), k1], k2⟩
      | mp φ =>
        obtain ⟨g, o, k1, k2⟩ := he2
        exact ⟨g, o, by rw [hγb i (by rw [he1]; rfl), k1], k2⟩
      | arr e k n =>
        obtain ⟨xs, hx⟩ := he2
        exact ⟨xs, by rw [hγb i (by rw [he1]; rfl)]; exact hx⟩
      | box t cs =>
        obtain ⟨g, vs, k1, k2, k3⟩ := he2
        refine ⟨g, vs, by rw [hγb i (by rw [he1]; rfl), k1], k2, ?_⟩
        have hnk : cs.all (fun x => (keysA x).isEmpty) = true := by
          have := List.all_eq_true.1 hkeys _ (look_mem he1)
          exact this
        have k5 : All2 (RdA γ' S M1 w1) (cs.map (renA id)) vs := by
          refine All2.renA k3 fun key hkk => ?_
          obtain ⟨x, hx, hkx⟩ := List.mem_flatMap.1 hkk
          have := List.all_eq_true.1 hnk x hx
          rw [List.isEmpty_iff] at this
          rw [this] at hkx; cases hkx
        have hid : ∀ x ∈ cs, renA id x = x := by
          intro x hx
          cases x <;> simp [renA]
          rename_i f xs ys
          have hb : ∀ y : BA, renB id y = y := fun y => by cases y <;> rfl
          have hl : ∀ l : List BA, l.map (renB id) = l := fun l => by rw [show (renB id) = id from funext hb]; simp
          rw [hl, hl]; exact ⟨rfl, rfl⟩
        rw [List.map_congr_left hid, List.map_id'] at k5
        exact k5
    · rw [hSo key hk] at he
      refine EntR.stp hstp (r.ent key e he) (hγo key hk) fun hlv b hbb => s1.other b (blk_lt r he hlv hbb) fun i c => hother key b (by rw [he]; exact hlv) hbb hk i c
  · rcases hcase key with ⟨i, e1, he1, rfl⟩ | hk
    · exact r1.own i b c ((hown1 i e1 b c he1).1 ho)
    · have ho' := (hown2 key b c hk).1 ho
      obtain ⟨l1, l2⟩ := owns_live ho'
      exact s1.keep b c (r.own key b c ho') fun i ho2 => hother key b l1 l2 hk i c ho2
  · -- two keys that stand for one block are one
    have hmix : ∀ i e key, look H1 i = some e → live (some e) = true → blk (γ1 i) = some b → (∀ i, (look H1 i).isSome = true → back ks base i ≠ key) → live (h key) = true → blk (γ key) = some b → False := by
      intro i e key he hle hbb hk hlk hbk2
      cases hh : h key with
      | none => rw [hh] at hlk; cases hlk
      | some e0 =>
        have hlt := blk_lt r hh (by rw [← hh]; exact hlk) hbk2
        have ho : ∃ c, Owns γ1 (look H1) i b c := by
          unfold Owns; rw [he]
          cases e with
          | gone => cases hle
          | box => exact ⟨0, hbb⟩
          | tab => exact ⟨0, hbb⟩
          | mp => exact ⟨0, hbb⟩
          | arr e k n => exact ⟨n * k, hbb, Nat.le_refl _⟩
        obtain ⟨c, ho⟩ := ho
        obtain ⟨j, hj⟩ := s1.new i b c ho hlt
        exact hother key b hlk hbk2 hk j c hj
    rcases hcase key1 with ⟨i, e1, he1, rfl⟩ | hk1 <;> rcases hcase key2 with ⟨j, e2, he2, rfl⟩ | hk2
    · rw [hSb i e1 he1] at l1
      rw [hSb j e2 he2] at l2
      rw [hγb i (by rw [he1]; rfl)] at b1
      rw [hγb j (by rw [he2]; rfl)] at b2
      rw [r1.inj i j b (by rw [he1]; exact l1) (by rw [he2]; exact l2) b1 b2]
    · rw [hSb i e1 he1] at l1
      rw [hγb i (by rw [he1]; rfl)] at b1
      rw [hSo key2 hk2] at l2
      rw [hγo key2 hk2] at b2
      exact (hmix i e1 key2 he1 l1 b1 hk2 l2 b2).elim
    · rw [hSb j e2 he2] at l2
      rw [hγb j (by rw [he2]; rfl)] at b2
      rw [hSo key1 hk1] at l1
      rw [hγo key1 hk1] at b1
      exact (hmix j e2 key1 he2 l2 b2 hk1 l1 b1).elim
    · rw [hSo key1 hk1] at l1
      rw [hγo key1 hk1] at b1
      rw [hSo key2 hk2] at l2
      rw [hγo key2 hk2] at b2
      exact r.inj key1 key2 b l1 l2 b1 b2
def WkV (v v' : V) : Prop := ∀ (γ : Gh) (h : Hp) (M : MS) (w : World) (r : Value), RdV γ h M w v r → RdV γ h M w v' r
theorem WkV.refl (v : V) : WkV v v := fun _ _ _ _ _ k => k
def bv : BA → V
  | .d x => .a (.d x)
  | .ptr k o => .a (.ptr k o)
theorem bv_ok {x : BA} {v : Value} (k : RdB γ h M w x v) : RdV γ h M w (bv x) v := by cases x <;> exact k
theorem bvs_ok : ∀ {xs : List BA} {vs : List Value}, All2 (RdB γ h M w) xs vs → All2 (RdV γ h M w) (xs.map bv) vs
  | [], [], _ => trivial
  | _ :: _, _ :: _, k => ⟨bv_ok k.1, bvs_ok k.2⟩
  | [], _ :: _, k => k.elim
  | _ :: _, [], k => k.elim
def evs (ev : Operand → Option V) : List Operand → Option (List V)
  | [] => some []
  | x :: r => match ev x, evs ev r with
    | some v, some vs => some (v :: vs)
    | _, _ => none
theorem evs_ok (ht : TR γ h M w T a) : ∀ {xs : List Operand} {vs : List V}, evs (evL T) xs = some vs → All2 (RdV γ h M w) vs (xs.map a.eval)
  | [], vs, hv => by simp [evs] at hv; subst hv; trivial
  | x :: r, vs, hv => by
    simp only [evs] at hv
    split at hv
    · rename_i v vs' h1 h2
      injection hv with hv; subst hv
      exact ⟨evL_ok ht h1, evs_ok ht h2⟩
    · cases hv
theorem evs_congr {ev ev' : Operand → Option V} : ∀ {xs : List Operand}, (∀ x, x ∈ xs → ev' x = ev x) → evs ev' xs = evs ev xs
  | [], _ => rfl
  | x :: r, hc => by simp only [evs]; rw [hc x (by simp), evs_congr fun y hy => hc y (by simp [hy])]
def entT (P : Program) (F : FuncId) : Bool :=
  match P.funcs[F]? with
  | some fn => (fn.name != "runtime.NumGoroutine") && fn.body.isSome
  | none => false
theorem entT_run {F : FuncId} (he : entT P F = true) (args : Array Value) : (callFunc F args).run P w = .ok (.enter F args) w := by
  unfold entT at he
  split at he
  · rename_i fn hf
    simp only [Bool.and_eq_true, bne_iff_ne, ne_eq] at he
    obtain ⟨h1, h2⟩ := he
    cases hb : fn.body with
    | none => rw [hb] at h2; cases h2
    | some b => simp [callFunc, hf, h1, hb]
  · cases he
theorem wk_all {gs bs : List V} (hw : All2 WkV gs bs) : ∀ {rs : List Value}, All2 (RdV γ h M w) gs rs → All2 (RdV γ h M w) bs rs := by
  induction gs generalizing bs with
  | nil => intro rs k; cases bs with
    | nil => exact k
    | cons => exact hw.elim
  | cons a gs ih => intro rs k; cases bs with
    | nil => exact hw.elim
    | cons b bs => cases rs with
      | nil => exact k.elim
      | cons r rs => exact ⟨hw.1 _ _ _ _ _ k.1, ih hw.2 k.2⟩
theorem lendFrom_congr {h h' : Hp} : ∀ {ks : List Nat} {i : Nat}, (∀ k, k ∈ ks → h' k = h k) → lendFrom h' i ks = lendFrom h i ks
  | [], _, _ => rfl
  | k :: ks, i, hc => by simp only [lendFrom]; rw [hc k (by simp), lendFrom_congr fun y hy => hc y (by simp [hy])]
theorem OT_call {o : Oper} {c : Call} {f : Operand} {F : FuncId} {first caps : List BA} {vs gs : List V} {ks : List Nat} {base : Nat} {Hs H1 : List (Nat × Ent)} {v1 : V} (ho : o.op = .call c) (hc : c.callee = .value f)
    (hf : evL T f = some (.a (.fn (.func F) first caps))) (ha : evs (evL T) c.args.toList = some vs) (hent : entT P F = true) (hw : All2 WkV (first.map bv ++ vs ++ caps.map bv) gs) (hn : ks.Nodup) (hb : ∀ k ∈ ks, k < base)
    (hl : lendFrom h 0 ks = some Hs) (hk : ∀ key ∈ gs.flatMap keysV, key ∈ ks) (hlc : LC P F (gs.map (renV fun k => ks.idxOf k)) Hs v1 H1) (hkeys : H1.all (fun p => noKeys p.2) = true)
    (hfresh : ∀ p ∈ H1, ks.length ≤ p.1 → h (back ks base p.1) = none) :
    OT P o T h (renV (back ks base) v1) (H1.map fun p => (back ks base p.1, p.2)) (ks ++ H1.map fun p => back ks base p.1) := by
  intro T' h' γ M w a next Q hT hk' hr ht hnx
  have hops : ∀ x, x = f ∨ x ∈ c.args.toList → evL T' x = evL T x := by
    intro x hx
    refine evL_congr fun d hd => hT d ?_
    rw [ho]; simp only [Op.operands, Call.operands, hc]
    subst hd
    rcases hx with hx | hx
    · subst hx; simp
    · simp only [Array.mem_append]; exact .inr (Array.mem_toList_iff.1 hx)
  have hf' := (hops f (.inl rfl)).trans hf
  have ha' : evs (evL T') c.args.toList = some vs := (evs_congr fun x hx => hops x (.inr hx)).trans ha
  have hl' : lendFrom h' 0 ks = some Hs := (lendFrom_congr fun k hk => hk' k (by simp [hk])).trans hl
  have hfresh' : ∀ p ∈ H1, ks.length ≤ p.1 → h' (back ks base p.1) = none := fun p hp hpl => (hk' _ (List.mem_append_right _ (List.mem_map.2 ⟨p, hp, rfl⟩))).trans (hfresh p hp hpl)
  obtain ⟨x1, y1, e1, k1, k2⟩ := evL_ok ht hf'
  have k3 := evs_ok ht ha'
  have k4 : All2 (RdV γ h' M w) gs (x1 ++ c.args.toList.map a.eval ++ y1) := wk_all hw (All2.app (All2.app (bvs_ok k1) k3) (bvs_ok k2))
  obtain ⟨q1, q2⟩ := lendFrom_ok hl'
  have k5 : All2 (RdV (fun i => γ (ks.getD i 0)) (look Hs) M w) (gs.map (renV fun k => ks.idxOf k)) (x1 ++ c.args.toList.map a.eval ++ y1) := by
    refine All2.renV k4 fun key hkey => ?_
    have hmem := hk key hkey
    have hi : ks.idxOf key < ks.length := List.idxOf_lt_length_of_mem hmem
    have hg : ks.getD (ks.idxOf key) 0 = key := by rw [getD_lt hi]; exact List.getElem_idxOf hi
    obtain ⟨e, e', z1, z2, z3⟩ := q1 _ hi
    rw [Nat.zero_add] at z3
    rw [hg] at z1
    refine ⟨by simp only [hg], fun hp => ?_, fun hp => ?_, fun _ => by rw [z3]; rfl, fun e0 k n he => ?_, fun e0 k n he => ?_⟩
    · rw [z1] at hp
      rw [z3]
      cases e <;> simp only [lendE] at z2
      · injection z2 with z2; subst z2; rfl
      · split at z2
        · injection z2 with z2; subst z2; rfl
        · cases z2
      · cases hp
      · injection z2 with z2; subst z2; rfl
      · cases hp
    · rw [z1] at hp
      rw [z3]
      cases e <;> simp only [lendE] at z2
      · injection z2 with z2; subst z2; rfl
      · cases hp
      · cases hp
      · cases hp
      · injection z2 with z2; subst z2; rfl
    · rw [z3] at he; injection he with he; subst he
      rw [z1]
      cases e <;> simp only [lendE] at z2
      · injection z2 with z2; cases z2
      · split at z2
        · injection z2 with z2; cases z2
        · cases z2
      · injection z2 with z2; rw [z2]
      · injection z2 with z2; cases z2
      · injection z2 with z2; cases z2
    · rw [z3] at he; injection he with he; subst he
      rw [z1]
      cases e <;> simp only [lendE] at z2
      · injection z2 with z2; cases z2
      · split at z2
        · injection z2 with z2; cases z2
        · cases z2
      · injection z2 with z2; cases z2
      · injection z2 with z2; exact ⟨_, by rw [z2], rfl⟩
      · injection z2 with z2; cases z2
  have k6 := hlc _ M w _ (rel_lend hr hn hl') k5
  unfold Oper.wp
  have hrun : (execOp a.eval o).run P w = .ok (.enter F (x1 ++ c.args.toList.map a.eval ++ y1).toArray) w := by
    have h1 : (x1 ++ c.args.toList.map a.eval ++ y1).toArray = x1.toArray ++ c.args.map a.eval ++ y1.toArray := by
      apply Array.ext'; simp
    have h2 := entT_run (w := w) hent (x1.toArray ++ c.args.map a.eval ++ y1.toArray)
    rw [h1]
    simp only [execOp, ho, resolve, hc, e1, Deferred.ofValue]
    rw [Array.append_assoc] at h2
    simp [invoke, h2]
  rw [hrun]
  refine Calls.mono k6 ?_
  rintro e w' ⟨r, γ1, M1, rfl, r1, r2, r3⟩
  obtain ⟨γ', z1, z2, z3⟩ := back_call hr hn hb hl' hkeys hfresh' r1 r3
  exact hnx r γ' M1 w' z1 (z3 v1 r r2) z2
end
end Go.Proofs.YtikglhmabidjoaaGreatDoor.Lf
