/- Lifted values: the evaluator over code, and a function's contract out of it. No program in sight. -/
import Derived.Test.YtikglhmabidjoaaGreatDoorLfI
namespace Go.Proofs.YtikglhmabidjoaaGreatDoor.Lf
open Go.RowKit Nt
set_option linter.unusedVariables false
set_option linter.unusedSimpArgs false
def dstB (N : Nat) : Option Nat → Bool
  | some d => Nat.blt d N
  | none => true
def ftOf (draw : Bool) (ops : Array Oper) (o : Oper) (sets : List (Nat × Ent)) (rk : List Nat) (rs : List Ft) : List Ft :=
  match draw with
  | true => rs ++ [⟨o.dst, sets.map (·.1), rk, slotsOf ops o⟩]
  | false => rs
def putT (dst : Option Nat) (v : V) (T : List (Nat × V)) (K : List (Nat × V) → Prop) : Prop := match dst with
  | some d => K ((d, v) :: T)
  | none => K T
def putH (sets : List (Nat × Ent)) (H : List (Nat × Ent)) (K : List (Nat × Ent) → Prop) : Prop := match sets with
  | [] => K H
  | [p] => K (p :: H)
  | p :: q :: r => K (p :: q :: (r ++ H))
noncomputable def gK (ops : Array Oper) (o : Oper) (T : List (Nat × V)) (A B : Prop) : Prop := match o.guard with
  | none => A
  | some _ => (match gslot ops o with
    | some (d, want) => (match look T d with
      | some (.a (.d (.lit (.bool b)))) => (match want with
        | true => bK b A B
        | false => bK b B A)
      | some (.a (.d (.lit (.tuple _)))) => B
      | _ => False)
    | none => False)
theorem gK_ok {ops : Array Oper} {o : Oper} {T : List (Nat × V)} {A B : Prop} (h : gK ops o T A B) : (gW ops o (look T) = some true ∧ A) ∨ (gW ops o (look T) = some false ∧ B) := by
  unfold gK at h
  unfold gW
  split at h
  · rename_i e
    try rw [e]
    exact .inl ⟨by first | rfl | trivial, h⟩
  · rename_i e
    try rw [e]
    split at h
    · rename_i d want e2
      try simp only [e2]
      split at h
      · rename_i b e3
        try simp only [e3]
        cases want <;> cases b <;> first | exact .inl ⟨by first | rfl | trivial, h⟩ | exact .inr ⟨by first | rfl | trivial, h⟩
      · rename_i e3
        try simp only [e3]
        exact .inr ⟨by first | rfl | trivial, h⟩
      · exact h.elim
    · exact h.elim
inductive Nc (ops : Array Oper) (rs : List Ft) (A : Prop) : Prop
  | mk (h : (noConf rs (masks ops.toList []) && edgesOk ops) = true) (k : A) : Nc ops rs A
def chE (draw : Bool) (ops : Array Oper) (rs : List Ft) (A : Prop) : Prop := match draw with
  | true => Nc ops rs A
  | false => A
def chD (N : Nat) (d : Option Nat) (A : Prop) : Prop := match dstB N d with
  | true => A
  | false => False
noncomputable def opC (P : Program) (o : Oper) (T : List (Nat × V)) (H : List (Nat × Ent)) (n : Nat) (K : V → List (Nat × Ent) → List Nat → Nat → Prop) : Prop := match callOf o with
  | some (f, xs) => (match evL (look T) f with
    | some (.a (.fn (.func F) first caps)) => (match evs (evL (look T)) xs with
      | some vs => fVs (first.map bv ++ (vs ++ caps.map bv)) fun vs => Cn P F vs H n K
      | none => False)
    | _ => False)
  | none => opR P o T H n K
noncomputable def chR (P : Program) (N : Nat) (draw : Bool) (ops : Array Oper) (l : List Oper) : List (Nat × V) → List (Nat × Ent) → Nat → List Ft → (List (Nat × V) → List (Nat × Ent) → Nat → Prop) → Prop :=
  List.rec (motive := fun _ => List (Nat × V) → List (Nat × Ent) → Nat → List Ft → (List (Nat × V) → List (Nat × Ent) → Nat → Prop) → Prop)
    (fun T H n rs K => chE draw ops rs (K T H n))
    (fun o _ ih T H n rs K => chD N o.dst (gK ops o T
      (opC P o T H n fun v sets rk n' => fN n' fun n' => putT o.dst v T fun T' => putH sets H fun H' => ih T' H' n' (ftOf draw ops o sets rk rs) K)
      (putT o.dst (vl undef) T fun T' => ih T' H n (ftOf draw ops o [] [] rs) K))) l
theorem chR_nil {P : Program} {N : Nat} {draw : Bool} {ops : Array Oper} {T : List (Nat × V)} {H : List (Nat × Ent)} {n : Nat} {rs : List Ft} {K : List (Nat × V) → List (Nat × Ent) → Nat → Prop} : chR P N draw ops [] T H n rs K = chE draw ops rs (K T H n) := rfl
theorem chR_cons {P : Program} {N : Nat} {draw : Bool} {ops : Array Oper} {o : Oper} {r : List Oper} {T : List (Nat × V)} {H : List (Nat × Ent)} {n : Nat} {rs : List Ft} {K : List (Nat × V) → List (Nat × Ent) → Nat → Prop} :
    chR P N draw ops (o :: r) T H n rs K = chD N o.dst (gK ops o T
      (opC P o T H n fun v sets rk n' => fN n' fun n' => putT o.dst v T fun T' => putH sets H fun H' => chR P N draw ops r T' H' n' (ftOf draw ops o sets rk rs) K)
      (putT o.dst (vl undef) T fun T' => chR P N draw ops r T' H n (ftOf draw ops o [] [] rs) K)) := rfl
theorem putT_eq {dst : Option Nat} {v : V} {T : List (Nat × V)} {K : List (Nat × V) → Prop} : putT dst v T K = K (wrT dst v ++ T) := by cases dst <;> rfl
theorem putH_eq {sets H : List (Nat × Ent)} {K : List (Nat × Ent) → Prop} : putH sets H K = K (sets ++ H) := by
  cases sets with
  | nil => rfl
  | cons p r => cases r <;> rfl
theorem dstB_ok {N : Nat} {d : Option Nat} (h : dstB N d = true) : ∀ x, d = some x → x < N := by
  intro x e; subst e; simpa [dstB, Nat.blt_eq] using h
theorem cn_ok {P : Program} {f : Operand} {xs : List Operand} {T : List (Nat × V)} {H : List (Nat × Ent)} {n : Nat} {F : FuncId} {first caps : List BA} {vs : List V} {o : Oper} {K : V → List (Nat × Ent) → List Nat → Nat → Prop}
    (hc : callOf o = some (f, xs)) (h1 : evL (look T) f = some (.a (.fn (.func F) first caps))) (h2 : evs (evL (look T)) xs = some vs) (h : Cn P F (first.map bv ++ vs ++ caps.map bv) H n K) : ∃ v sets rk n', OT P o (look T) (look H) v sets rk ∧ K v sets rk n' := by
  cases h with
  | pure gs R he hl hw hg hk =>
    obtain ⟨v, H', hR, hl⟩ := hl
    obtain ⟨rfl, k2, k3⟩ := hk v H' hR
    rw [fX_eq] at k3
    have hkeys : gs.flatMap keysV = [] := List.isEmpty_iff.1 hg
    have hid : gs.map (renV fun k => ([] : List Nat).idxOf k) = gs := by
      have : ∀ l : List V, l.flatMap keysV = [] → l.map (renV fun k => ([] : List Nat).idxOf k) = l := by
        intro l hl
        have hB : ∀ x : BA, keysB x = [] → renB (fun k => ([] : List Nat).idxOf k) x = x := fun x hx => by cases x <;> first | rfl | simp [keysB] at hx
        have hBs : ∀ l : List BA, l.flatMap keysB = [] → l.map (renB fun k => ([] : List Nat).idxOf k) = l := fun l hl => by
          rw [List.flatMap_eq_nil_iff] at hl
          exact (List.map_congr_left fun x hx => hB x (hl x hx)).trans (List.map_id _)
        have hA : ∀ x : A, keysA x = [] → renA (fun k => ([] : List Nat).idxOf k) x = x := fun x hx => by
          cases x <;> first | rfl | (simp [keysA] at hx; done) | skip
          simp only [keysA, List.append_eq_nil_iff] at hx
          simp only [renA, hBs _ hx.1, hBs _ hx.2]
        have hAs : ∀ l : List A, l.flatMap keysA = [] → l.map (renA fun k => ([] : List Nat).idxOf k) = l := fun l hl => by
          rw [List.flatMap_eq_nil_iff] at hl
          exact (List.map_congr_left fun x hx => hA x (hl x hx)).trans (List.map_id _)
        have hW : ∀ x : W, keysW x = [] → renW (fun k => ([] : List Nat).idxOf k) x = x := fun x hx => by
          cases x with
          | s x => simp only [renW, hA x hx]
          | g xs => simp only [renW, hAs xs hx]
        have hV : ∀ x : V, keysV x = [] → renV (fun k => ([] : List Nat).idxOf k) x = x := fun x hx => by
          cases x with
          | a x => simp only [renV, hA x hx]
          | agg xs => simp only [renV, hAs xs hx]
          | tup xs =>
            simp only [renV]
            simp only [keysV, List.flatMap_eq_nil_iff] at hx
            rw [(List.map_congr_left fun x hx' => hW x (hx x hx')).trans (List.map_id _)]
        rw [List.flatMap_eq_nil_iff] at hl
        exact (List.map_congr_left fun x hx => hV x (hl x hx)).trans (List.map_id _)
      exact this gs hkeys
    have hrv : renV (back [] n) v = v := by
      have hB : ∀ x : BA, keysB x = [] → renB (back [] n) x = x := fun x hx => by cases x <;> first | rfl | simp [keysB] at hx
      have hBs : ∀ l : List BA, l.flatMap keysB = [] → l.map (renB (back [] n)) = l := fun l hl => by
        rw [List.flatMap_eq_nil_iff] at hl
        exact (List.map_congr_left fun x hx => hB x (hl x hx)).trans (List.map_id _)
      have hA : ∀ x : A, keysA x = [] → renA (back [] n) x = x := fun x hx => by
        cases x <;> first | rfl | (simp [keysA] at hx; done) | skip
        simp only [keysA, List.append_eq_nil_iff] at hx
        simp only [renA, hBs _ hx.1, hBs _ hx.2]
      have hAs : ∀ l : List A, l.flatMap keysA = [] → l.map (renA (back [] n)) = l := fun l hl => by
        rw [List.flatMap_eq_nil_iff] at hl
        exact (List.map_congr_left fun x hx => hA x (hl x hx)).trans (List.map_id _)
      have hW : ∀ x : W, keysW x = [] → renW (back [] n) x = x := fun x hx => by
        cases x with
        | s x => simp only [renW, hA x hx]
        | g xs => simp only [renW, hAs xs hx]
      cases v with
      | a x => simp only [renV, hA x k2]
      | agg xs => simp only [renV, hAs xs k2]
      | tup xs =>
        simp only [renV]
        simp only [keysV, List.flatMap_eq_nil_iff] at k2
        rw [(List.map_congr_left fun x hx' => hW x (k2 x hx')).trans (List.map_id _)]
    unfold callOf at hc
    split at hc
    · rename_i c e
      split at hc
      · rename_i f' e2
        injection hc with hc; injection hc with c1 c2; subst c1 c2
        have := OT_call (T := look T) (h := look H) (base := n) (ks := []) (Hs := []) (H1 := []) e e2 h1 h2 he hw List.nodup_nil (fun k hk => by simp at hk) rfl (by rw [hkeys]; simp) (by rw [hid]; exact hl) rfl (fun p hp => by simp at hp)
        rw [hrv] at this
        exact ⟨v, [], [], n, by simpa using this, k3⟩
      · cases hc
    · cases hc
  | lend ks gs Hs R he hl hw hn hb hle hg hk =>
    obtain ⟨v, H1, hR, hl⟩ := hl
    obtain ⟨k1, k2, k3⟩ := hk v H1 hR
    rw [fX_eq, fHs_eq] at k3
    unfold callOf at hc
    split at hc
    · rename_i c e
      split at hc
      · rename_i f' e2
        injection hc with hc; injection hc with c1 c2; subst c1 c2
        exact ⟨_, _, _, _, OT_call e e2 h1 h2 he hw hn hb hle hg hl k1 k2, k3⟩
      · cases hc
    · cases hc
theorem chR_facts {P : Program} {N : Nat} {draw : Bool} {ops : Array Oper} {K : List (Nat × V) → List (Nat × Ent) → Nat → Prop} : ∀ (l : List Oper) (T : List (Nat × V)) (H : List (Nat × Ent)) (n : Nat) (rs : List Ft), chR P N draw ops l T H n rs K →
    ∃ recs T' H' n', Facts P N ops recs T H T' H' ∧ recs.map (·.o) = l ∧ (draw = true → noConf (rs ++ recs.map (·.ft ops)) (masks ops.toList []) = true ∧ edgesOk ops = true) ∧ K T' H' n'
  | [], T, H, n, rs, hc => by
    rw [chR_nil] at hc
    unfold chE at hc
    cases draw with
    | true =>
      obtain ⟨e, hc⟩ := hc
      rw [Bool.and_eq_true] at e
      exact ⟨[], T, H, n, .nil T H, rfl, fun _ => by simpa using e, hc⟩
    | false => exact ⟨[], T, H, n, .nil T H, rfl, (fun h => absurd h (by simp)), hc⟩
  | o :: r, T, H, n, rs, hc => by
    rw [chR_cons] at hc
    unfold chD at hc
    split at hc
    · rename_i hd
      have hdst := dstB_ok hd
      have go : ∀ v sets rk n', (gW ops o (look T) = some true ∧ OT P o (look T) (look H) v sets rk) ∨ (gW ops o (look T) = some false ∧ v = vl undef ∧ sets = []) →
          chR P N draw ops r (wrT o.dst v ++ T) (sets ++ H) n' (ftOf draw ops o sets rk rs) K →
          ∃ recs T' H' n', Facts P N ops recs T H T' H' ∧ recs.map (·.o) = o :: r ∧ (draw = true → noConf (rs ++ recs.map (·.ft ops)) (masks ops.toList []) = true ∧ edgesOk ops = true) ∧ K T' H' n' := by
        intro v sets rk n' hf hk
        obtain ⟨recs, T', H', n2, f1, f2, f3, f4⟩ := chR_facts r _ _ _ _ hk
        refine ⟨⟨o, v, sets, rk⟩ :: recs, T', H', n2, .cons _ _ _ _ _ _ ⟨hdst, hf⟩ f1, by simp [f2], fun hdr => ?_, f4⟩
        subst hdr
        simpa [ftOf, Rec.ft] using f3 rfl
      rcases gK_ok hc with ⟨hb, hc⟩ | ⟨hb, hc⟩
      · unfold opC at hc
        split at hc
        · rename_i f xs hcall
          split at hc
          · rename_i F first caps hf
            split at hc
            · rename_i vs hvs
              rw [fVs_eq, ← List.append_assoc] at hc
              obtain ⟨v, sets, rk, n', k1, k2⟩ := cn_ok hcall hf hvs hc
              rw [fN_eq, putT_eq, putH_eq] at k2
              exact go v sets rk n' (.inl ⟨hb, k1⟩) k2
            · exact hc.elim
          · exact hc.elim
        · obtain ⟨v, sets, rk, n', k1, k2⟩ := opR_ok hc
          rw [fN_eq, putT_eq, putH_eq] at k2
          exact go v sets rk n' (.inl ⟨hb, k1⟩) k2
      · simp only [putT_eq] at hc
        exact go _ [] [] n (.inr ⟨hb, rfl, rfl⟩) (by simpa using hc)
    · exact hc.elim
def qSeq (K : St → Prop) (Q : Exit → St → Prop) (e : Exit) (s : St) : Prop := match e with
  | .normal => K s
  | e => Q e s
inductive Ln (body : (Exit → St → Prop) → St → Prop) (m : Nat) (Q : Exit → St → Prop) (s : St) : Prop
  | mk (β : Type) (inv : β → St) (ok : β → Prop) (μ : β → Nat) (b0 : β) (h0 : Wk m s (inv b0)) (h1 : ok b0) (step : ∀ b, ok b → body (qSeq (fun s' => ∃ b', Wk m s' (inv b') ∧ ok b' ∧ μ b' < μ b) Q) (inv b)) : Ln body m Q s
  | mkw (β : Type) (inv : β → St) (ok : β → Prop) (μ : β → Nat) (b0 : β) (h0 : Wk m s (inv b0)) (h1 : ok b0) (step : ∀ b, ok b → body (qSeq (fun s' => ∃ b', Wk m s' (inv b') ∧ ok b' ∧ μ b' < μ b) fun e s' => ∃ s2, Wk m s' s2 ∧ Q e s2) (inv b)) : Ln body m Q s
noncomputable def rnR (P : Program) (N : Nat) (ops : Array Oper) (draw : Bool) (Q : Exit → St → Prop) (s : St) : Prop := match s with
  | ⟨T, H, n⟩ => chR P N draw ops ops.toList T H n [] fun T H n => Q .normal ⟨T, H, n⟩
noncomputable def rnC (c : Operand) (s : St) (A B : Prop) : Prop := match s with
  | ⟨T, _, _⟩ => (match evL (look T) c with
    | some (.a (.d (.lit (.bool b)))) => bK b A B
    | _ => False)
def qBlock (id : Nat) (Q : Exit → St → Prop) (e : Exit) (s : St) : Prop := match e with
  | .exit id' => (match Nat.beq id' id with
    | true => Q .normal s
    | false => Q (.exit id') s)
  | e => Q e s
def qScope (Q : Exit → St → Prop) (e : Exit) (s : St) : Prop := match e with
  | .goto _ => False
  | e => Q e s
noncomputable def rn (P : Program) (N m : Nat) (c : Code) : (Exit → St → Prop) → St → Prop :=
  Code.rec (motive := fun _ => (Exit → St → Prop) → St → Prop)
    (fun Q s => Q .normal s)
    (fun _ ops draw Q s => rnR P N ops draw Q s)
    (fun _ _ x y Q s => x (qSeq (fun s' => y Q s') Q) s)
    (fun c _ _ x y Q s => rnC c s (x Q s) (y Q s))
    (fun id _ x Q s => x (qBlock id Q) s)
    (fun _ x Q s => Ln x m Q s)
    (fun _ _ _ _ _ _ _ _ => False)
    (fun id Q s => Q (.exit id) s)
    (fun _ x Q s => x (qScope Q) s)
    (fun _ Q s => Q .normal s)
    (fun _ _ _ => False)
    (fun Q s => Q .ret s)
    (fun _ _ _ => False) c
def Ev (P : Program) (N m : Nat) (c : Code) (s : St) (e : Exit) (s' : St) : Prop :=
  ∀ (γ0 : Gh) (h0 : Hp) (M0 : MS) (w0 : World) (a : Act) (w : World) (Q : Exit → Act → World → Prop), (∀ key, (h0 key).isSome = true → key < m) → (∀ b i, M0 b i → b < w0.heap.size) →
    SR N γ0 h0 M0 w0 (look s.T) (look s.H) a w → (∀ a' w', SR N γ0 h0 M0 w0 (look s'.T) (look s'.H) a' w' → Q e a' w') → c.wp P Q a w
def Det (P : Program) (N m : Nat) (c : Code) (s : St) (Φ : Exit → St → Prop) : Prop := ∃ e s', Φ e s' ∧ Ev P N m c s e s'
section
variable {P : Program} {N m : Nat}
theorem Ev.seqN {x y : Code} {s s1 s2 : St} {e : Exit} (h : Ev P N m x s .normal s1) (k : Ev P N m y s1 e s2) : Ev P N m (.seq x y) s e s2 :=
  fun γ0 h0 M0 w0 a w Q hm hd hS hQ => wp_seq (h γ0 h0 M0 w0 a w _ hm hd hS fun a' w' hS' => k γ0 h0 M0 w0 a' w' Q hm hd hS' hQ)
theorem Ev.seqX {x y : Code} {s s1 : St} {e : Exit} (he : e ≠ .normal) (h : Ev P N m x s e s1) : Ev P N m (.seq x y) s e s1 :=
  fun γ0 h0 M0 w0 a w Q hm hd hS hQ => wp_seq (h γ0 h0 M0 w0 a w _ hm hd hS fun a' w' hS' => by cases e <;> first | exact absurd rfl he | exact hQ a' w' hS')
theorem Ev.out {c : Code} {s s1 s2 : St} {e : Exit} (h : Ev P N m c s e s1) (k : Wk m s1 s2) : Ev P N m c s e s2 :=
  fun γ0 h0 M0 w0 a w Q hm hd hS hQ => h γ0 h0 M0 w0 a w Q hm hd hS fun a' w' hS' => hQ a' w' (k N γ0 h0 M0 w0 a' w' hm hd hS')
theorem Ev.wk {c : Code} {s s0 s1 : St} {e : Exit} (h : Ev P N m c s e s1) (k : Wk m s0 s) : Ev P N m c s0 e s1 :=
  fun γ0 h0 M0 w0 a w Q hm hd hS hQ => h γ0 h0 M0 w0 a w Q hm hd (k _ _ _ _ _ _ _ hm hd hS) hQ
def EvL (P : Program) (N m : Nat) (c : Code) (s : St) (e : Exit) (s' : St) : Prop :=
  ∀ (γ0 : Gh) (h0 : Hp) (M0 : MS) (w0 : World) (a : Act) (w : World) (Q : Exit → Act → World → Prop), (∀ key, (h0 key).isSome = true → key < m) → (∀ b i, M0 b i → b < w0.heap.size) →
    SR N γ0 h0 M0 w0 (look s.T) (look s.H) a w → (∀ a' w', SR N γ0 h0 M0 w0 (look s'.T) (look s'.H) a' w' → Q e a' w') →
    ∀ (bb : Frame) (k : List Item) (cs : List Frame), ∃ e a' w', Q e a' w' ∧ Arrives P (lone (bb.at a (.code c :: .inLoop c :: k)) cs w) bb k cs e a' w'
theorem EvL.more {c : Code} {s s1 s2 : St} {e : Exit} (h : Ev P N m c s .normal s1) (k : EvL P N m c s1 e s2) : EvL P N m c s e s2 := by
  intro γ0 h0 M0 w0 a w Q hm hd hS hQ bb k' cs
  obtain ⟨e1, a1, w1, hq, harr⟩ := h γ0 h0 M0 w0 a w (Exit.then (fun a' w' => SR N γ0 h0 M0 w0 (look s1.T) (look s1.H) a' w') (fun _ _ _ => False)) hm hd hS (fun a' w' hS' => hS') bb (.inLoop c :: k') cs
  cases e1 with
  | normal =>
    obtain ⟨e2, a2, w2, hq2, harr2⟩ := k γ0 h0 M0 w0 a1 w1 Q hm hd hq hQ bb k' cs
    exact ⟨e2, a2, w2, hq2, .of_steps (Steps.trans harr (.one step_inLoop)) harr2⟩
  | _ => exact hq.elim
theorem EvL.last {c : Code} {s s1 : St} {e : Exit} (he : e ≠ .normal) (h : Ev P N m c s e s1) : EvL P N m c s e s1 := by
  intro γ0 h0 M0 w0 a w Q hm hd hS hQ bb k' cs
  obtain ⟨e1, a1, w1, ⟨hq, rfl⟩, harr⟩ := h γ0 h0 M0 w0 a w (fun e' a' w' => SR N γ0 h0 M0 w0 (look s1.T) (look s1.H) a' w' ∧ e' = e) hm hd hS (fun a' w' hS' => ⟨hS', rfl⟩) bb (.inLoop c :: k') cs
  exact ⟨e1, a1, w1, hQ _ _ hq, .pass (x := .inLoop c) rfl (fun _ _ => .inl he) harr⟩
theorem EvL.wk {c : Code} {s s0 s1 : St} {e : Exit} (h : EvL P N m c s e s1) (k : Wk m s0 s) : EvL P N m c s0 e s1 :=
  fun γ0 h0 M0 w0 a w Q hm hd hS hQ => h γ0 h0 M0 w0 a w Q hm hd (k _ _ _ _ _ _ _ hm hd hS) hQ
theorem EvL.loop {c : Code} {s s1 : St} {e : Exit} (h : EvL P N m c s e s1) : Ev P N m (.loop c) s e s1 := by
  intro γ0 h0 M0 w0 a w Q hm hd hS hQ bb k' cs
  obtain ⟨e1, a1, w1, hq, harr⟩ := h γ0 h0 M0 w0 a w Q hm hd hS hQ bb k' cs
  exact ⟨e1, a1, w1, hq, .of_steps (.one step_loop) harr⟩
theorem Det.mono {c : Code} {s : St} {Φ Ψ : Exit → St → Prop} (h : Det P N m c s Φ) (k : ∀ e s', Φ e s' → Ψ e s') : Det P N m c s Ψ := let ⟨e, s', h1, h2⟩ := h; ⟨e, s', k _ _ h1, h2⟩
theorem region_ev (hmx : P.follows .mixedOrders = true) {id : Nat} {ops : Array Oper} {draw : Bool} {recs : List Rec} {s : St} {T' : List (Nat × V)} {H' : List (Nat × Ent)} {n' : Nat} (f1 : Facts P N ops recs s.T s.H T' H') (f2 : recs.map (·.o) = ops.toList)
    (f3 : draw = true → noConf (recs.map (·.ft ops)) (masks ops.toList []) = true ∧ edgesOk ops = true) : Ev P N m (.region id ops draw) s .normal ⟨T', H', n'⟩ := by
  intro γ0 h0 M0 w0 a w Q hm hd hS hQ
  have hlen : recs.length = ops.size := by rw [← List.length_map (f := (·.o)), f2]; simp
  have hget : ∀ (j : Nat) (r : Rec), recs[j]? = some r → ops[j]? = some r.o := by
    intro j r hr
    have h1 : ops.toList[j]? = some r.o := by rw [← f2, List.getElem?_map, hr]; rfl
    simpa using h1
  cases draw with
  | false =>
    refine wp_region ?_
    have := facts_plain (ops := ops) hd f1 (Q := Q) 0 a w (fun j r hj => by rw [Nat.zero_add]; exact hget j r hj) hS fun a' w' hS' => hQ _ _ hS'
    simpa [hlen] using this
  | true =>
    obtain ⟨f5, f6⟩ := f3 rfl
    refine wp_region_any hmx ?_
    refine facts_any hd f1 f2 f5 f6 (fun a' w' hS' => hQ _ _ hS') ops.size _ a _ (by simp) (by simp [unl, List.countP_replicate]) (fun i o hi => ?_) ?_
    · exfalso
      rw [Array.getD_eq_getD_getElem?] at hi
      by_cases hlt : i < ops.size
      · simp [hlt] at hi
      · simp [hlt] at hi
    · have hnone : ∀ {β : Type} (zs : List (List (Nat × β))) (i : Nat) (S : Nat → Bool) (T : List (Nat × β)), (∀ j, S j = false) → sel zs i S T = T := by
        intro β zs
        induction zs with
        | nil => intros; rfl
        | cons z zs ih => intro i S T hs; simp only [sel]; rw [hs i]; exact ih _ _ _ hs
      have hfalse : ∀ j, (Array.replicate ops.size false).getD j false = false := by
        intro j; rw [Array.getD_eq_getD_getElem?]; by_cases hlt : j < ops.size <;> simp [hlt]
      rw [hnone _ _ _ _ hfalse, hnone _ _ _ _ hfalse]
      exact hS.drew hd
theorem rn_det (hmx : P.follows .mixedOrders = true) : ∀ (c : Code) (Φ : Exit → St → Prop) (s : St), rn P N m c Φ s → Det P N m c s Φ := by
  intro c
  induction c with
  | skip => intro Φ s h; exact ⟨.normal, s, h, fun γ0 h0 M0 w0 a w Q hm hd hS hQ => wp_skip (hQ _ _ hS)⟩
  | label l => intro Φ s h; exact ⟨.normal, s, h, fun γ0 h0 M0 w0 a w Q hm hd hS hQ => wp_label (hQ _ _ hS)⟩
  | region id ops draw =>
    intro Φ s h
    obtain ⟨recs, T', H', n', f1, f2, f3, f4⟩ := chR_facts _ _ _ _ _ (show chR P N draw ops ops.toList s.T s.H s.n [] fun T H n => Φ .normal ⟨T, H, n⟩ from h)
    exact ⟨.normal, _, f4, region_ev hmx f1 f2 (by simpa using f3)⟩
  | seq x y ihx ihy =>
    intro Φ s h
    obtain ⟨e, s1, h1, h2⟩ := ihx _ s (show rn P N m x (qSeq (fun s' => rn P N m y Φ s') Φ) s from h)
    cases e with
    | normal => obtain ⟨e', s2, h3, h4⟩ := ihy _ s1 h1; exact ⟨e', s2, h3, h2.seqN h4⟩
    | _ => exact ⟨_, s1, h1, Ev.seqX (by simp) h2⟩
  | cond c x y ihx ihy =>
    intro Φ s h
    have h : rnC c s (rn P N m x Φ s) (rn P N m y Φ s) := h
    unfold rnC at h
    obtain ⟨T, H, n⟩ := s
    simp only at h
    split at h
    · rename_i b he
      have hc : ∀ {γ0 : Gh} {h0 : Hp} {M0 : MS} {w0 : World} {a : Act} {w : World}, SR N γ0 h0 M0 w0 (look T) (look H) a w → a.eval c = .bool b := fun hS => by
        obtain ⟨γ, M, _, ht, _⟩ := hS
        exact lit_inv (evL_ok ht he)
      cases b with
      | true =>
        obtain ⟨e, s1, h1, h2⟩ := ihx _ _ h
        exact ⟨e, s1, h1, fun γ0 h0 M0 w0 a w Q hm hd hS hQ => wp_cond_true (hc hS) (h2 γ0 h0 M0 w0 a w Q hm hd hS hQ)⟩
      | false =>
        obtain ⟨e, s1, h1, h2⟩ := ihy _ _ h
        exact ⟨e, s1, h1, fun γ0 h0 M0 w0 a w Q hm hd hS hQ => wp_cond_false (hc hS) (h2 γ0 h0 M0 w0 a w Q hm hd hS hQ)⟩
    · exact h.elim
  | block id c ih =>
    intro Φ s h
    obtain ⟨e, s1, h1, h2⟩ := ih _ s (show rn P N m c (qBlock id Φ) s from h)
    cases e with
    | exit id' =>
      simp only [qBlock] at h1
      split at h1
      · rename_i hid
        have hid := Nat.eq_of_beq_eq_true hid
        exact ⟨.normal, s1, h1, fun γ0 h0 M0 w0 a w Q hm hd hS hQ => wp_block (h2 γ0 h0 M0 w0 a w _ hm hd hS fun a' w' hS' => by simp only [Exit.inBlock]; rw [if_pos hid]; exact hQ _ _ hS')⟩
      · rename_i hid
        have hid := Nat.ne_of_beq_eq_false hid
        exact ⟨.exit id', s1, h1, fun γ0 h0 M0 w0 a w Q hm hd hS hQ => wp_block (h2 γ0 h0 M0 w0 a w _ hm hd hS fun a' w' hS' => by simp only [Exit.inBlock]; rw [if_neg hid]; exact hQ _ _ hS')⟩
    | _ => exact ⟨_, s1, h1, fun γ0 h0 M0 w0 a w Q hm hd hS hQ => wp_block (h2 γ0 h0 M0 w0 a w _ hm hd hS fun a' w' hS' => hQ _ _ hS')⟩
  | loop c ih =>
    intro Φ s h
    have h : Ln (rn P N m c) m Φ s := h
    obtain ⟨β, inv, ok, μ, b0, hw0, hok0, hstep⟩ : ∃ (β : Type) (inv : β → St) (ok : β → Prop) (μ : β → Nat) (b0 : β), Wk m s (inv b0) ∧ ok b0 ∧ ∀ b, ok b → Det P N m c (inv b) (qSeq (fun s' => ∃ b', Wk m s' (inv b') ∧ ok b' ∧ μ b' < μ b) fun e s' => ∃ s2, Wk m s' s2 ∧ Φ e s2) := by
      rcases h with ⟨β, inv, ok, μ, b0, hw0, hok0, hstep⟩ | ⟨β, inv, ok, μ, b0, hw0, hok0, hstep⟩
      · refine ⟨β, inv, ok, μ, b0, hw0, hok0, fun b hb => (ih _ _ (hstep b hb)).mono fun e s' h => ?_⟩
        cases e <;> first | exact h | exact ⟨s', Wk.refl m s', h⟩
      · exact ⟨β, inv, ok, μ, b0, hw0, hok0, fun b hb => ih _ _ (hstep b hb)⟩
    have key : ∀ n b, μ b = n → ok b → ∃ e s', Φ e s' ∧ EvL P N m c (inv b) e s' := by
      intro n
      induction n using Nat.strongRecOn with
      | _ n ihn =>
        intro b hb hok
        obtain ⟨e, s1, h1, h2⟩ := hstep b hok
        cases e with
        | normal =>
          obtain ⟨b', k1, k2, k3⟩ := h1
          obtain ⟨e', s2, h3, h4⟩ := ihn (μ b') (by omega) b' rfl k2
          exact ⟨e', s2, h3, EvL.more h2 (EvL.wk h4 k1)⟩
        | _ => obtain ⟨s2, k1, k2⟩ := h1; exact ⟨_, s2, k2, EvL.last (by simp) (h2.out k1)⟩
    obtain ⟨e, s', h1, h2⟩ := key _ b0 rfl hok0
    exact ⟨e, s', h1, EvL.loop (EvL.wk h2 hw0)⟩
  | exit id => intro Φ s h; exact ⟨.exit id, s, h, fun γ0 h0 M0 w0 a w Q hm hd hS hQ => wp_exit (hQ _ _ hS)⟩
  | ret => intro Φ s h; exact ⟨.ret, s, h, fun γ0 h0 M0 w0 a w Q hm hd hS hQ => wp_ret (hQ _ _ hS)⟩
  | scope c ih =>
    intro Φ s h
    obtain ⟨e, s1, h1, h2⟩ := ih _ s (show rn P N m c (qScope Φ) s from h)
    cases e with
    | goto l => exact h1.elim
    | _ => exact ⟨_, s1, h1, fun γ0 h0 M0 w0 a w Q hm hd hS hQ => wp_scope_straight (h2 γ0 h0 M0 w0 a w _ hm hd hS fun a' w' hS' => hQ _ _ hS')⟩
  | rangeFunc => intro Φ s h; exact h.elim
  | goto => intro Φ s h; exact h.elim
  | refuse => intro Φ s h; exact h.elim
def wOf : V → Option W
  | .a x => some (.s x)
  | .agg xs => some (.g xs)
  | _ => none
def vOf : List W → V
  | [.s x] => .a x
  | [.g xs] => .agg xs
  | ws => .tup ws
def resL (P : Program) (T : List (Nat × V)) (H : List (Nat × Ent)) : List ResultVar → Option (List W)
  | [] => some []
  | .tmp t :: r => match (look T t).bind wOf, resL P T H r with
    | some x, some xs => some (x :: xs)
    | _, _ => none
  | .cell a t :: r => match ((look T a).bind (loadL P t (look H))).bind (wOf ·.1), resL P T H r with
    | some x, some xs => some (x :: xs)
    | _, _ => none
inductive Rt (m : Nat) (H : List (Nat × Ent)) (v : V) (R : V → List (Nat × Ent) → Prop) : Prop
  | mk (v' : V) (H' : List (Nat × Ent)) (hR : R v' H') (hw : WkV v v') (hi : inH H' (keysV v') = true) (hs : subH H H' H') (hm : subM m H H' = true) : Rt m H v R
noncomputable def retQ (P : Program) (m : Nat) (fn : Func) (R : V → List (Nat × Ent) → Prop) (e : Exit) (s : St) : Prop :=
  match (match e with
    | .ret => true
    | .normal => true
    | _ => false) with
  | true => (match resL P s.T s.H fn.results.toList with
    | some ws => fV (vOf ws) fun v => Rt m s.H v R
    | none => False)
  | false => False
def argT : Nat → List V → List (Nat × V)
  | _, [] => []
  | i, v :: vs => (i, v) :: argT (i + 1) vs
noncomputable def argK (i : Nat) (l : List V) : (List (Nat × V) → Prop) → Prop :=
  List.rec (motive := fun _ => Nat → (List (Nat × V) → Prop) → Prop) (fun _ K => K []) (fun v _ ih i K => fN i fun i => fV v fun v => ih (i + 1) fun T => K ((i, v) :: T)) l i
theorem argK_cons (i : Nat) (v : V) (vs : List V) (K : List (Nat × V) → Prop) : argK i (v :: vs) K = fN i fun i => fV v fun v => argK (i + 1) vs fun T => K ((i, v) :: T) := rfl
theorem argK_eq : ∀ (vs : List V) (i : Nat) (K : List (Nat × V) → Prop), argK i vs K = K (argT i vs)
  | [], i, K => rfl
  | v :: vs, i, K => by rw [argK_cons, fN_eq, fV_eq, argK_eq vs]; rfl
theorem argT_look : ∀ (vs : List V) (i d : Nat), look (argT i vs) d = if i ≤ d then vs[d - i]? else none
  | [], i, d => by simp [argT, look]
  | v :: vs, i, d => by
    simp only [argT, look]
    rw [argT_look vs (i + 1) d]
    by_cases h : i = d
    · subst h; simp
    · rw [if_neg h]
      by_cases h2 : i + 1 ≤ d
      · rw [if_pos h2, if_pos (by omega), show d - i = (d - (i + 1)) + 1 from by omega, List.getElem?_cons_succ]
      · rw [if_neg h2, if_neg (by omega)]
theorem wOf_ok {γ : Gh} {h : Hp} {M : MS} {w : World} {v : V} {x : W} {r : Value} (hv : RdV γ h M w v r) (hx : wOf v = some x) : RdW γ h M w x r := by
  cases v <;> simp [wOf] at hx <;> subst hx <;> exact hv
theorem load_run {γ : Gh} {h : Hp} {M : MS} {w : World} {t : TypeId} {vx v : V} {rk : List Nat} {x : Value} (hr : Rel γ h M w) (hx : RdV γ h M w vx x) (hl : loadL P t h vx = some (v, rk)) :
    ∃ ad r, x = .pointer (some ad) ∧ (loadVar t ad).run P w = .ok r w ∧ RdV γ h M w v r := by
  unfold loadL at hl
  split at hl
  · rename_i key off
    split at hl
    · rename_i tb cs ag s h1 h2 h3
      obtain ⟨v', h4, h5⟩ := Option.map_eq_some_iff.1 hl
      injection h5 with h5 h6; subst h5 h6
      obtain ⟨_, g, k1, k2⟩ := hx
      obtain ⟨g', vs, k3, k4, k5⟩ := hr.ent key _ h1
      rw [k1] at k3; injection k3 with k3; injection k3 with k3; injection k3 with k3; subst k3
      have k6 := All2.take s (All2.drop off k5)
      obtain ⟨k7, k8⟩ := oneL_ok h4 k6
      refine ⟨_, _, k2, loadVar_run h2 h3 (fun e => by subst e; exact oneL_one h4) k7 fun j u hj => ?_, k8⟩
      rw [List.getElem?_take, List.getElem?_drop] at hj
      split at hj
      · simp [World.cell?, k4, hj]
      · cases hj
    · cases hl
  · rename_i row off
    split at hl
    · rename_i ag s h2 h3
      obtain ⟨v', h4, h5⟩ := Option.map_eq_some_iff.1 hl
      injection h5 with h5 h6; subst h5 h6
      obtain ⟨b, oo, f, k1, k2⟩ := hx
      obtain ⟨vs, k3, k4⟩ := elt_vs (γ := γ) (h := h) k2 off s
      obtain ⟨k7, k8⟩ := oneL_ok h4 k3
      exact ⟨_, _, k1, loadVar_run h2 h3 (fun e => by subst e; exact oneL_one h4) k7 k4, k8⟩
    · cases hl
  · cases hl
theorem res_ok {γ : Gh} {M : MS} {w : World} {a : Act} {T : List (Nat × V)} {H : List (Nat × Ent)} (hr : Rel γ (look H) M w) (ht : TR γ (look H) M w (look T) a) : ∀ (l : List ResultVar) (ws : List W), resL P T H l = some ws →
    ∃ rs : List Value, rs.length = l.length ∧ All2 (RdW γ (look H) M w) ws rs ∧ ∀ (i : Nat) x r, l[i]? = some x → rs[i]? = some r → match x with
      | .tmp t => a.tmps.getD t undef = r
      | .cell p t => ∃ ad, a.tmps.getD p undef = .pointer (some ad) ∧ (loadVar t ad).run P w = .ok r w
  | [], ws, h => by injection h with h; subst h; exact ⟨[], rfl, trivial, fun i x r hx => by simp at hx⟩
  | .tmp t :: l, ws, h => by
    simp only [resL] at h
    split at h
    · rename_i x xs h1 h2
      injection h with h; subst h
      obtain ⟨v, h3, h4⟩ := Option.bind_eq_some_iff.1 h1
      obtain ⟨r, h5, h6⟩ := ht.2 t v h3
      obtain ⟨rs, k1, k2, k3⟩ := res_ok hr ht l xs h2
      refine ⟨r :: rs, by simp [k1], ⟨wOf_ok h6 h4, k2⟩, fun i x r' hx hr' => ?_⟩
      cases i with
      | zero => simp at hx hr'; subst hx hr'; simp only [Array.getD_eq_getD_getElem?, h5, Option.getD_some]
      | succ i => exact k3 i x r' (by simpa using hx) (by simpa using hr')
    · cases h
  | .cell p t :: l, ws, h => by
    simp only [resL] at h
    split at h
    · rename_i x xs h1 h2
      injection h with h; subst h
      obtain ⟨⟨v, rk⟩, h3, h4⟩ := Option.bind_eq_some_iff.1 h1
      obtain ⟨vx, h3, h5⟩ := Option.bind_eq_some_iff.1 h3
      obtain ⟨r0, h6, h7⟩ := ht.2 p vx h3
      obtain ⟨ad, r, h8, h9, h10⟩ := load_run hr h7 h5
      obtain ⟨rs, k1, k2, k3⟩ := res_ok hr ht l xs h2
      refine ⟨r :: rs, by simp [k1], ⟨wOf_ok h10 h4, k2⟩, fun i x r' hx hr' => ?_⟩
      cases i with
      | zero => simp at hx hr'; subst hx hr'; exact ⟨ad, by simp only [Array.getD_eq_getD_getElem?, h6, Option.getD_some, h8], h9⟩
      | succ i => exact k3 i x r' (by simpa using hx) (by simpa using hr')
    · cases h
theorem results_run {fn : Func} {a : Act} {w : World} : ∀ (l : List ResultVar) (rs : List Value), fn.results = ⟨l⟩ → rs.length = l.length → l.length ≤ 4 → (∀ (i : Nat) x r, l[i]? = some x → rs[i]? = some r → match x with
      | .tmp t => a.tmps.getD t undef = r
      | .cell p t => ∃ ad, a.tmps.getD p undef = .pointer (some ad) ∧ (loadVar t ad).run P w = .ok r w) →
    (results fn a.tmps).run P w = .ok (match rs with
      | [r] => r
      | rs => .tuple rs.toArray) w
  | [], [], he, _, _, hk => by simp [results, he]
  | [x], [r], he, _, _, hk => by
    have h0 := hk 0 _ _ rfl rfl
    clear hk
    cases x <;> simp only at h0
    all_goals try obtain ⟨ad0, h0, k0⟩ := h0
    all_goals simp only [Array.getD_eq_getD_getElem?] at *
    all_goals simp [results, he, asAddr, *]
  | [x, y], [r, s], he, _, _, hk => by
    have h0 := hk 0 _ _ rfl rfl
    have h1 := hk 1 _ _ rfl rfl
    clear hk
    cases x <;> cases y <;> simp only at h0 h1
    all_goals try obtain ⟨ad0, h0, k0⟩ := h0
    all_goals try obtain ⟨ad1, h1, k1⟩ := h1
    all_goals simp only [Array.getD_eq_getD_getElem?] at *
    all_goals simp [results, he, asAddr, *]
  | [x, y, z], [r, s, u], he, _, _, hk => by
    have h0 := hk 0 _ _ rfl rfl
    have h1 := hk 1 _ _ rfl rfl
    have h2 := hk 2 _ _ rfl rfl
    clear hk
    cases x <;> cases y <;> cases z <;> simp only at h0 h1 h2
    all_goals try obtain ⟨ad0, h0, k0⟩ := h0
    all_goals try obtain ⟨ad1, h1, k1⟩ := h1
    all_goals try obtain ⟨ad2, h2, k2⟩ := h2
    all_goals simp only [Array.getD_eq_getD_getElem?] at *
    all_goals simp [results, he, asAddr, *]
  | [x, y, z, t], [r, s, u, v], he, _, _, hk => by
    have h0 := hk 0 _ _ rfl rfl
    have h1 := hk 1 _ _ rfl rfl
    have h2 := hk 2 _ _ rfl rfl
    have h3 := hk 3 _ _ rfl rfl
    clear hk
    cases x <;> cases y <;> cases z <;> cases t <;> simp only at h0 h1 h2 h3
    all_goals try obtain ⟨ad0, h0, k0⟩ := h0
    all_goals try obtain ⟨ad1, h1, k1⟩ := h1
    all_goals try obtain ⟨ad2, h2, k2⟩ := h2
    all_goals try obtain ⟨ad3, h3, k3⟩ := h3
    all_goals simp only [Array.getD_eq_getD_getElem?] at *
    all_goals simp [results, he, asAddr, *]
theorem vOf_ok {γ : Gh} {h : Hp} {M : MS} {w : World} : ∀ {ws : List W} {rs : List Value}, All2 (RdW γ h M w) ws rs → RdV γ h M w (vOf ws) (match rs with
      | [r] => r
      | rs => .tuple rs.toArray)
  | [], [], _ => ⟨[], rfl, trivial⟩
  | [.s x], [r], k => k.1
  | [.g xs], [r], k => k.1
  | x :: y :: ws, r :: s :: rs, k => by
    simp only [vOf]
    exact ⟨r :: s :: rs, rfl, k⟩
  | [], _ :: _, k => k.elim
  | [_], [], k => k.elim
  | [_], _ :: _ :: _, k => k.2.elim
  | _ :: _ :: _, [], k => k.elim
  | _ :: _ :: _, [_], k => k.2.elim
theorem LX_run (hmx : P.follows .mixedOrders = true) {F : FuncId} {fn : Func} {c : Code} {args : List V} {H : List (Nat × Ent)} {n0 : Nat} {R : V → List (Nat × Ent) → Prop} (hf : P.funcs[F]? = some fn) (hb : fn.body = some c)
    (hl : Nat.ble args.length fn.ntmps = true) (hrs : Nat.ble fn.results.toList.length 4 = true) (hm : H.all (fun p => Nat.blt p.1 m) = true) (h : argK 0 args fun T => rn P fn.ntmps m c (retQ P m fn R) ⟨T, H, n0⟩) : LX P F args H R := by
  rw [argK_eq] at h
  have hmm : ∀ key, (look H key).isSome = true → key < m := by
    intro key hk
    obtain ⟨e, he⟩ := Option.isSome_iff_exists.1 hk
    have := List.all_eq_true.1 hm _ (look_mem he)
    simpa [Nat.blt_eq] using this
  obtain ⟨e, s', hΦ, hev⟩ := rn_det hmx c _ _ h
  unfold retQ at hΦ
  split at hΦ
  · rename_i hexit
    split at hΦ
    · rename_i ws hws
      rw [fV_eq] at hΦ
      obtain ⟨v', H', hR, hw, hi, hs, hm'⟩ := hΦ
      refine ⟨v', H', hR, fun γ M w rs hrel hargs => ?_⟩
      have hlen : rs.length = args.length := hargs.len.symm
      have hble : args.length ≤ fn.ntmps := Nat.le_of_ble_eq_true hl
      refine calls_of_wp hf hb (hev γ (look H) M w _ w _ hmm hrel.dom ⟨γ, M, hrel, ⟨hrel.glb, fun d v hd => ?_⟩, ?_, rfl, Stp.refl _ _ _ _⟩ fun a' w' hS' => ?_)
      · rw [argT_look] at hd
        simp only [Nat.zero_le, if_true, Nat.sub_zero] at hd
        obtain ⟨r, h1, h2⟩ := hargs.get hd
        refine ⟨r, ?_, h2⟩
        have hlt := (List.getElem?_eq_some_iff.1 h1).1
        simp only
        rw [Array.getElem?_append_left (by simpa using hlt)]
        simpa using h1
      · simp; omega
      · obtain ⟨γ', M', k1, k2, k3, k4, k5⟩ := hS'
        obtain ⟨rs', r1, r2, r3⟩ := res_ok k1 k2 _ _ hws
        have hrun := results_run _ rs' (show fn.results = ⟨fn.results.toList⟩ by simp) r1 (Nat.le_of_ble_eq_true hrs) r3
        obtain ⟨q1, q2, q3⟩ := rel_sub k1 (H' := H') fun d e' he => subH_at hs he
        have hb : a'.defers = [] ∧ ∃ v, (results fn a'.tmps).run P w' = .ok v w' ∧ ∃ r γ'' M'', Ending.returned v = .returned r ∧ Rel γ'' (look H') M'' w' ∧ RdV γ'' (look H') M'' w' v' r ∧ Stp γ (look H) M w γ'' (look H') M'' w' :=
          ⟨k4, _, hrun, _, γ', M', rfl, q1, q2 _ _ (hw _ _ _ _ _ (vOf_ok r2)) hi, q3 (fun key h0 h1 => by
            have := List.all_eq_true.1 hm' key (List.mem_range.2 (hmm key h0))
            simpa [h1] using this) k5⟩
        cases e <;> first | exact hb | cases hexit
    · exact hΦ.elim
  · exact hΦ.elim
end
end Go.Proofs.YtikglhmabidjoaaGreatDoor.Lf
