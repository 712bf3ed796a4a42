/- Lifted values: code, and a function's contract. No program in sight. -/
import Derived.Test.YtikglhmabidjoaaGreatDoorLfG
namespace Go.Proofs.YtikglhmabidjoaaGreatDoor.Lf
open Go.RowKit Nt
set_option linter.unusedVariables false
set_option linter.unusedSimpArgs false
structure St where
  T : List (Nat × V)
  H : List (Nat × Ent)
  n : Nat
def Wk (m : Nat) (s s' : St) : Prop := ∀ (N : Nat) (γ0 : Gh) (h0 : Hp) (M0 : MS) (w0 : World) (a : Act) (w : World), (∀ key, (h0 key).isSome = true → key < m) → (∀ b i, M0 b i → b < w0.heap.size) →
  SR N γ0 h0 M0 w0 (look s.T) (look s.H) a w → SR N γ0 h0 M0 w0 (look s'.T) (look s'.H) a w
theorem Wk.refl (m : Nat) (s : St) : Wk m s s := fun _ _ _ _ _ _ _ _ _ k => k
theorem Wk.trans {m : Nat} {s s' s'' : St} (h : Wk m s s') (k : Wk m s' s'') : Wk m s s'' := fun _ _ _ _ _ _ _ h1 h2 h3 => k _ _ _ _ _ _ _ h1 h2 (h _ _ _ _ _ _ _ h1 h2 h3)
def lw (P : Program) (N m : Nat) : Code → (Exit → St → Prop) → St → Prop
  | .skip, Q, s => Q .normal s
  | .label _, Q, s => Q .normal s
  | .region _ ops draw, Q, s => chainW P N ops ops.toList s.T s.H s.n [] fun T H n rs => (draw = true → noConf rs (masks ops.toList []) = true ∧ edgesOk ops = true) ∧ Q .normal ⟨T, H, n⟩
  | .seq x y, Q, s => lw P N m x (fun e s' => match e with
    | .normal => lw P N m y Q s'
    | e => Q e s') s
  | .cond c x y, Q, s => match evL (look s.T) c with
    | some (.a (.d (.lit (.bool b)))) => (b = true → lw P N m x Q s) ∧ (b = false → lw P N m y Q s)
    | _ => False
  | .block id c, Q, s => lw P N m c (fun e s' => match e with
    | .exit id' => if id' = id then Q .normal s' else Q (.exit id') s'
    | e => Q e s') s
  | .loop c, Q, s => ∃ (β : Type) (inv : β → St) (ok : β → Prop) (μ : β → Nat), (∃ b, Wk m s (inv b) ∧ ok b) ∧ ∀ b, ok b → lw P N m c (fun e s' => match e with
    | .normal => ∃ b', Wk m s' (inv b') ∧ ok b' ∧ μ b' < μ b
    | e => Q e s') (inv b)
  | .exit id, Q, s => Q (.exit id) s
  | .ret, Q, s => Q .ret s
  | .scope c, Q, s => lw P N m c (fun e s' => match e with
    | .goto _ => False
    | e => Q e s') s
  | _, _, _ => False
section
variable {γ γ' : Gh} {h h' : Hp} {M M' : MS} {w w' : World} {T T' : Nat → Option V} {a : Act} {P : Program} {N m : Nat}
theorem stp_drew (γ : Gh) (h : Hp) (M : MS) (w : World) : Stp γ h M w γ h M w.drew :=
  ⟨rfl, rfl, rfl, Nat.le_refl _, fun _ _ _ k => k, fun _ _ _ => rfl, fun _ _ k _ => k, fun key b i k _ => ⟨key, k⟩, fun key e he => ⟨e, he, Goes.refl e, .inl rfl⟩⟩
theorem SR.drew {γ0 : Gh} {h0 : Hp} {M0 : MS} {w0 : World} (hd : ∀ b i, M0 b i → b < w0.heap.size) (k : SR N γ0 h0 M0 w0 T h a w) : SR N γ0 h0 M0 w0 T h a w.drew := by
  obtain ⟨γ, M, h1, h2, h3, h4, h5⟩ := k
  have s := stp_drew γ h M w
  exact ⟨γ, M, ⟨fun key e he => EntR.stp s (h1.ent key e he) rfl fun _ _ _ => rfl, h1.own, h1.inj, h1.u32, h1.dom, h1.glb.fx s.fx⟩, h2.stp s, h3, h4, h5.trans s hd⟩
theorem SR.same {γ0 : Gh} {h0 : Hp} {M0 : MS} {w0 : World} (k : SR N γ0 h0 M0 w0 T h a w) (hT : T = T') (hh : h = h') : SR N γ0 h0 M0 w0 T' h' a w := by subst hT hh; exact k
def WkA (x y : A) : Prop := ∀ (γ : Gh) (h : Hp) (M : MS) (w : World) (r : Value), RdA γ h M w x r → RdA γ h M w y r
theorem WkA.refl (x : A) : WkA x x := fun _ _ _ _ _ k => k
theorem WkA.own {key k : Nat} {xs : List (List D)} : WkA (.own key k xs) (.d (.sl k xs)) := fun _ _ _ _ _ k => k.1
theorem WkA.nil {k : Nat} : WkA (.d (.lit (.slice none 0 0))) (.d (.sl k [])) := fun _ _ _ _ _ q => by rw [lit_inv q]; exact nil_ok k
theorem WkV.of {x y : A} (h : WkA x y) : WkV (.a x) (.a y) := h
theorem all2_wk {γ : Gh} {h : Hp} {M : MS} {w : World} : ∀ {xs ys : List A} {vs : List Value}, All2 WkA xs ys → All2 (RdA γ h M w) xs vs → All2 (RdA γ h M w) ys vs
  | [], [], [], _, _ => trivial
  | _ :: _, _ :: _, _ :: _, h, k => ⟨h.1 _ _ _ _ _ k.1, all2_wk h.2 k.2⟩
  | [], [], _ :: _, _, k => k.elim
  | [], _ :: _, _, h, _ => h.elim
  | _ :: _, [], _, h, _ => h.elim
  | _ :: _, _ :: _, [], _, k => k.elim
theorem WkV.agg {xs ys : List A} (h : All2 WkA xs ys) : WkV (.agg xs) (.agg ys) := fun _ _ _ _ _ ⟨vs, h1, h2⟩ => ⟨vs, h1, all2_wk h h2⟩
def WkW : W → W → Prop
  | .s x, .s y => WkA x y
  | .g xs, .g ys => All2 WkA xs ys
  | _, _ => False
theorem all2_wkW {γ : Gh} {h : Hp} {M : MS} {w : World} : ∀ {xs ys : List W} {vs : List Value}, All2 WkW xs ys → All2 (RdW γ h M w) xs vs → All2 (RdW γ h M w) ys vs
  | [], [], [], _, _ => trivial
  | x :: _, y :: _, v :: _, hh, k => ⟨by
      cases x <;> cases y <;> first | exact hh.1.elim | skip
      · exact hh.1 _ _ _ _ _ k.1
      · obtain ⟨vs, h1, h2⟩ := k.1; exact ⟨vs, h1, all2_wk hh.1 h2⟩, all2_wkW hh.2 k.2⟩
  | [], [], _ :: _, _, k => k.elim
  | [], _ :: _, _, h, _ => h.elim
  | _ :: _, [], _, h, _ => h.elim
  | _ :: _, _ :: _, [], _, k => k.elim
theorem WkV.tup {xs ys : List W} (h : All2 WkW xs ys) : WkV (.tup xs) (.tup ys) := fun _ _ _ _ _ ⟨vs, h1, h2⟩ => ⟨vs, h1, all2_wkW h h2⟩
def WkD (x y : D) : Prop := ∀ (M : MS) (w : World) (r : Value), RdD M w x r → RdD M w y r
theorem WkD.refl (x : D) : WkD x x := fun _ _ _ k => k
theorem all2_wkD {M : MS} {w : World} : ∀ {xs ys : List (List D)} {vs : List Value}, All2 (All2 WkD) xs ys → All2 (RdD M w) xs.flatten vs → All2 (RdD M w) ys.flatten vs := by
  have one : ∀ {xs ys : List D}, All2 WkD xs ys → ∀ {zs zs' : List D} {vs : List Value}, (∀ us, All2 (RdD M w) zs us → All2 (RdD M w) zs' us) → All2 (RdD M w) (xs ++ zs) vs → All2 (RdD M w) (ys ++ zs') vs := by
    intro xs
    induction xs with
    | nil => intro ys h zs zs' vs k q; cases ys with
      | nil => exact k _ q
      | cons => exact h.elim
    | cons x xs ih => intro ys h zs zs' vs k q; cases ys with
      | nil => exact h.elim
      | cons y ys => cases vs with
        | nil => exact q.elim
        | cons v vs => exact ⟨h.1 _ _ _ q.1, ih h.2 k q.2⟩
  intro xs
  induction xs with
  | nil => intro ys vs h q; cases ys with
    | nil => exact q
    | cons => exact h.elim
  | cons x xs ih => intro ys vs h q; cases ys with
    | nil => exact h.elim
    | cons y ys => exact one h.1 (fun us => ih h.2) q
theorem all2_len {xs ys : List (List D)} {k : Nat} (h : All2 (All2 WkD) xs ys) (hk : ∀ row ∈ xs, row.length = k) : ∀ row ∈ ys, row.length = k := by
  intro row hr
  obtain ⟨i, hi⟩ := List.mem_iff_getElem?.1 hr
  have hl := h.len
  have hlt := (List.getElem?_eq_some_iff.1 hi).1
  obtain ⟨y, e1, e2⟩ := All2.get h (i := i) (x := xs[i]'(by omega)) (List.getElem?_eq_getElem _)
  rw [hi] at e1; injection e1 with e1; subst e1
  rw [← e2.len]; exact hk _ (List.getElem_mem _)
def WkE (e e' : Ent) : Prop :=
  match e' with
  | .gone => True
  | .box t cs' => ∃ cs, e = .box t cs ∧ All2 WkA cs cs'
  | .arr t k n => e = .arr t k n
  | .tab t k rows => ∃ rows0, e = .tab t k rows0 ∧ All2 (All2 WkD) rows0 rows
  | .mp φ => ∃ φ0, e = .mp φ0 ∧ ∀ o, φ0 o → φ o
def keysE : Ent → List Nat
  | .box _ cs => cs.flatMap keysA
  | _ => []
def inH (H : List (Nat × Ent)) (ks : List Nat) : Bool := ks.all fun k => (look H k).isSome
def subT (T : List (Nat × V)) (H' : List (Nat × Ent)) : List (Nat × V) → Prop
  | [] => True
  | (d, v') :: r => (∃ v, look T d = some v ∧ WkV v v' ∧ inH H' (keysV v') = true) ∧ subT T H' r
def subH (H H' : List (Nat × Ent)) : List (Nat × Ent) → Prop
  | [] => True
  | (k, e') :: r => (∃ e, look H k = some e ∧ WkE e e' ∧ inH H' (keysE e') = true) ∧ subH H H' r
def subM (m : Nat) (H H' : List (Nat × Ent)) : Bool := (List.range m).all fun k => !(look H k).isSome || (look H' k).isSome
theorem subT_at {T : List (Nat × V)} {H' : List (Nat × Ent)} : ∀ {L : List (Nat × V)}, subT T H' L → ∀ {d : Nat} {v' : V}, look L d = some v' → ∃ v, look T d = some v ∧ WkV v v' ∧ inH H' (keysV v') = true
  | (e, x) :: r, hs, d, v', hl => by
    simp only [look] at hl
    split at hl
    · rename_i hd; subst hd; injection hl with hl; subst hl; exact hs.1
    · exact subT_at hs.2 hl
theorem subH_at {H H' : List (Nat × Ent)} : ∀ {L : List (Nat × Ent)}, subH H H' L → ∀ {d : Nat} {e' : Ent}, look L d = some e' → ∃ e, look H d = some e ∧ WkE e e' ∧ inH H' (keysE e') = true
  | (e, x) :: r, hs, d, v', hl => by
    simp only [look] at hl
    split at hl
    · rename_i hd; subst hd; injection hl with hl; subst hl; exact hs.1
    · exact subH_at hs.2 hl
theorem renB_id (x : BA) : renB id x = x := by cases x <;> rfl
theorem renA_id (x : A) : renA id x = x := by
  cases x <;> simp [renA]
  have hl : ∀ l : List BA, l.map (renB id) = l := fun l => by rw [show (renB id) = id from funext renB_id]; simp
  exact ⟨hl _, hl _⟩
theorem renW_id (x : W) : renW id x = x := by
  cases x with
  | s x => simp [renW, renA_id]
  | g xs => simp [renW, show (renA id) = id from funext renA_id]
theorem renV_id (x : V) : renV id x = x := by
  cases x with
  | a x => simp [renV, renA_id]
  | agg xs => simp [renV, show (renA id) = id from funext renA_id]
  | tup xs => simp [renV, show (renW id) = id from funext renW_id]
theorem rel_sub (r : Rel γ h M w) {H' : List (Nat × Ent)} (hs : ∀ (d : Nat) (e' : Ent), look H' d = some e' → ∃ e, h d = some e ∧ WkE e e' ∧ inH H' (keysE e') = true) :
    Rel γ (look H') M w ∧ (∀ v x, RdV γ h M w v x → inH H' (keysV v) = true → RdV γ (look H') M w v x) ∧ (∀ {γ0 : Gh} {h0 : Hp} {M0 : MS} {w0 : World}, (∀ key, (h0 key).isSome = true → (h key).isSome = true → (look H' key).isSome = true) → Stp γ0 h0 M0 w0 γ h M w → Stp γ0 h0 M0 w0 γ (look H') M w) := by
  have hsame : ∀ key, (look H' key).isSome = true → SameKey id γ h γ (look H') key := by
    intro key hk
    obtain ⟨e', he'⟩ := Option.isSome_iff_exists.1 hk
    obtain ⟨e, he, hw, _⟩ := hs key e' he'
    refine ⟨rfl, fun hp => ?_, fun hp => ?_, fun _ => hk, fun e0 k n hq => ?_, fun e0 k n hq => ?_⟩
    · rw [he] at hp
      simp only [id_eq, he']
      cases e' with
      | gone => rfl
      | box => rfl
      | tab => rfl
      | mp => obtain ⟨φ0, rfl, _⟩ := hw; cases hp
      | arr => rw [show e = _ from hw] at hp; exact hp
    · rw [he] at hp
      simp only [id_eq, he']
      cases e' with
      | gone => rfl
      | box => obtain ⟨_, rfl, _⟩ := hw; cases hp
      | tab => obtain ⟨_, rfl, _⟩ := hw; cases hp
      | mp => rfl
      | arr => rw [show e = _ from hw] at hp; cases hp
    · simp only [id_eq] at hq
      rw [he'] at hq; injection hq with hq; subst hq
      rw [he, show e = _ from hw]
    · simp only [id_eq] at hq
      rw [he'] at hq; injection hq with hq; subst hq
      obtain ⟨rows0, rfl, h0⟩ := hw
      exact ⟨_, he, h0.len.symm⟩
  have hin : ∀ {ks : List Nat}, inH H' ks = true → ∀ key ∈ ks, (look H' key).isSome = true := fun hi key hk => List.all_eq_true.1 hi key hk
  have hlive : ∀ key, live (look H' key) = true → live (h key) = true := by
    intro key hl
    cases he' : look H' key with
    | none => rw [he'] at hl; cases hl
    | some e' =>
      obtain ⟨e, he, hw, _⟩ := hs key e' he'
      rw [he'] at hl
      rw [he]
      cases e' with
      | gone => cases hl
      | box => obtain ⟨cs, rfl, _⟩ := hw; rfl
      | tab => obtain ⟨cs, rfl, _⟩ := hw; rfl
      | mp => obtain ⟨cs, rfl, _⟩ := hw; rfl
      | arr => rw [show e = _ from hw]; rfl
  have hown : ∀ key b i, Owns γ (look H') key b i → Owns γ h key b i := by
    intro key b i ho
    unfold Owns at ho ⊢
    cases he' : look H' key with
    | none => rw [he'] at ho; exact ho.elim
    | some e' =>
      obtain ⟨e, he, hw, _⟩ := hs key e' he'
      rw [he'] at ho
      rw [he]
      cases e' with
      | gone => exact ho.elim
      | box => obtain ⟨cs, rfl, _⟩ := hw; exact ho
      | tab => obtain ⟨cs, rfl, _⟩ := hw; exact ho
      | mp => obtain ⟨cs, rfl, _⟩ := hw; exact ho
      | arr => rw [show e = _ from hw]; exact ho
  refine ⟨⟨fun key e' he' => ?_, fun key b i ho => r.own key b i (hown key b i ho), fun k1 k2 b l1 l2 => r.inj k1 k2 b (hlive k1 l1) (hlive k2 l2), r.u32, r.dom, r.glb⟩, fun v x hv hi => ?_, fun {γ0 h0 M0 w0} hm s => ?_⟩
  · obtain ⟨e, he, hw, hi⟩ := hs key e' he'
    have hr := r.ent key e he
    cases e' with
    | gone => trivial
    | arr t k n => rw [show e = _ from hw] at hr; exact hr
    | mp φ =>
      obtain ⟨φ0, rfl, h0⟩ := hw
      obtain ⟨g, o, k1, k2, k3, k4⟩ := hr
      exact ⟨g, o, k1, k2, h0 o k3, k4⟩
    | tab t k rows =>
      obtain ⟨rows0, rfl, h0⟩ := hw
      obtain ⟨g, vs, k1, k2, k3, k4, k5⟩ := hr
      exact ⟨g, vs, k1, k2, all2_len h0 k3, all2_wkD h0 k4, k5⟩
    | box t cs' =>
      obtain ⟨cs, rfl, hcs⟩ := hw
      obtain ⟨g, vs, k1, k2, k3⟩ := hr
      refine ⟨g, vs, k1, k2, ?_⟩
      have k4 := All2.renA (f := id) (γ' := γ) (h' := look H') (all2_wk hcs k3) fun key hk => hsame key (hin hi key hk)
      rwa [show (renA id) = id from funext renA_id, List.map_id] at k4
  · have := RdV.ren (f := id) (γ' := γ) (h' := look H') hv fun key hk => hsame key (hin hi key hk)
    rwa [renV_id] at this
  · refine ⟨s.os, s.tape, s.output, s.size, s.fx, s.other, s.keep, fun key b i ho hb => s.new key b i (hown key b i ho) hb, fun key e he => ?_⟩
    obtain ⟨e1, h1, h2, h3⟩ := s.key key e he
    have hk := hm key (by rw [he]; rfl) (by rw [h1]; rfl)
    obtain ⟨e', he'⟩ := Option.isSome_iff_exists.1 hk
    obtain ⟨e2, he2, hw, _⟩ := hs key e' he'
    rw [h1] at he2; injection he2 with he2; subst he2
    refine ⟨e', he', ?_, ?_⟩
    · cases e' with
      | gone => cases e <;> trivial
      | box => obtain ⟨cs, rfl, _⟩ := hw; cases e <;> exact h2
      | tab => obtain ⟨cs, rfl, h0⟩ := hw; cases e <;> first | exact h2 | exact h0.len.symm.trans h2
      | mp => obtain ⟨cs, rfl, h0⟩ := hw; cases e <;> exact h2
      | arr => rw [show e1 = _ from hw] at h2; exact h2
    · rcases h3 with h3 | h3
      · exact .inl h3
      · right
        cases e' with
        | gone => cases e <;> cases e1 <;> first | trivial | exact h3.elim | exact h3
        | box => obtain ⟨cs, rfl, _⟩ := hw; cases e <;> exact h3.elim
        | tab => obtain ⟨cs, rfl, _⟩ := hw; cases e <;> exact h3.elim
        | mp => obtain ⟨cs, rfl, _⟩ := hw; cases e <;> exact h3.elim
        | arr => rw [show e1 = _ from hw] at h3; exact h3
theorem Wk.of {m : Nat} {s s' : St} (h1 : subT s.T s'.H s'.T) (h2 : subH s.H s'.H s'.H) (h3 : subM m s.H s'.H = true) : Wk m s s' := by
  intro N γ0 h0 M0 w0 a w hm hd hS
  obtain ⟨γ, M, k1, k2, k3, k4, k5⟩ := hS
  obtain ⟨r1, r2, r3⟩ := rel_sub k1 (H' := s'.H) fun d e' he => subH_at h2 he
  refine ⟨γ, M, r1, ⟨k2.1, fun d v' hv' => ?_⟩, k3, k4, r3 (fun key hk0 hk => ?_) k5⟩
  · obtain ⟨v, hv, hw, hi⟩ := subT_at h1 hv'
    obtain ⟨x, q1, q2⟩ := k2.2 d v hv
    exact ⟨x, q1, r2 v' x (hw _ _ _ _ _ q2) hi⟩
  · have := List.all_eq_true.1 h3 key (List.mem_range.2 (hm key hk0))
    simpa [hk] using this
theorem Wk.own {m : Nat} {s : St} (d key : Nat) (e : TypeId) (k : Nat) (hT : look s.T d = some (vl (.slice none 0 0))) (hk : look s.H key = none) (hkm : m ≤ key) :
    Wk m s ⟨(d, .a (.own key k [])) :: s.T, (key, .arr e k 0) :: s.H, s.n⟩ := by
  intro N γ0 h0 M0 w0 a w hm hd hS
  obtain ⟨γ, M, k1, k2, k3, k4, k5⟩ := hS
  obtain ⟨q1, q2⟩ := new_nil k1 hk e k
  have e1 : look ((key, Ent.arr e k 0) :: s.H) = over [(key, .arr e k 0)] (look s.H) := look_app [(key, Ent.arr e k 0)] s.H
  refine ⟨_, M, by rw [e1]; exact q1, ⟨k2.1, fun d' v' hv' => ?_⟩, k3, k4, by rw [e1]; exact k5.trans q2 hd⟩
  simp only [look] at hv'
  split at hv'
  · rename_i hdd; subst hdd
    injection hv' with hv'; subst hv'
    obtain ⟨x, y1, y2⟩ := k2.2 _ _ hT
    have y3 := lit_inv y2
    subst y3
    refine ⟨_, y1, nil_ok k, by simp [look], fun e' k' n he => ?_⟩
    simp only [look, if_true] at he
    injection he with he; injection he with _ _ he; subst he
    exact ⟨Nat.le_refl _, fun _ => by rw [upd_same]⟩
  · obtain ⟨x, y1, y2⟩ := k2.2 d' v' hv'
    exact ⟨x, y1, by rw [e1]; exact RdV.stp q2 y2⟩
end
end Go.Proofs.YtikglhmabidjoaaGreatDoor.Lf
