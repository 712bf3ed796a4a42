/- Lifted values: the statements' lists of operations, in order and in any order. No program in sight. -/
import Derived.Test.YtikglhmabidjoaaGreatDoorLfE
namespace Go.Proofs.YtikglhmabidjoaaGreatDoor.Lf
open Go.RowKit Nt
set_option linter.unusedVariables false
set_option linter.unusedSimpArgs false
def opL (P : Program) (o : Oper) (T : List (Nat × V)) (H : List (Nat × Ent)) (n : Nat) : Option (V × List (Nat × Ent) × List Nat × Nat) :=
  match o.op with
  | .load t x => match evL (look T) x with
    | some vx => (loadL P t (look H) vx).map fun p => (p.1, [], p.2, n)
    | none => none
  | .alloc t => match zeroT P zv t with
    | some zs => (boxL t zs n (look H)).map fun p => (p.1, p.2.1, p.2.2, n + 1)
    | none => none
  | .box t x => match (evL (look T) x).bind cellsV with
    | some xs => (boxL t xs n (look H)).map fun p => (p.1, p.2.1, p.2.2, n + 1)
    | none => none
  | .store t x y => match evL (look T) x, evL (look T) y with
    | some vx, some vy => (storeL P t (look H) vx vy).map fun p => (vl undef, p.1, p.2, n)
    | _, _ => none
  | .buildSlice t len parts => (bsL P (evL (look T)) (look H) n t len parts.toList).map fun p => (p.1, p.2.1, p.2.2, n + 1)
  | .call { callee := .builtin .append, args := ⟨[s, x]⟩, argTypes := ⟨[t, t']⟩ } => match (elemT P t').isSome, evL (look T) s, evL (look T) x with
    | true, some vs, some vx => (appL P t (look H) n vs vx).map fun p => (p.1, p.2.1, p.2.2, n + 1)
    | _, _, _ => none
  | _ => (pureL P (evL (look T)) o).map fun v => (v, [], [], n)
theorem opL_ok {P : Program} {o : Oper} {T : List (Nat × V)} {H : List (Nat × Ent)} {n n' : Nat} {v : V} {sets : List (Nat × Ent)} {rk : List Nat} (ho : opL P o T H n = some (v, sets, rk, n')) : OT P o (look T) (look H) v sets rk := by
  unfold opL at ho
  split at ho
  case h_1 t x e =>
    split at ho
    · rename_i vx h1
      obtain ⟨p, h2, h3⟩ := Option.map_eq_some_iff.1 ho
      simp only [Prod.mk.injEq] at h3; obtain ⟨rfl, rfl, rfl, rfl⟩ := h3
      exact OT_load e h1 h2
    · cases ho
  case h_2 t e =>
    split at ho
    · rename_i zs h1
      obtain ⟨p, h2, h3⟩ := Option.map_eq_some_iff.1 ho
      simp only [Prod.mk.injEq] at h3; obtain ⟨rfl, rfl, rfl, rfl⟩ := h3
      exact OT_alloc e h1 h2
    · cases ho
  case h_3 t x e =>
    split at ho
    · rename_i xs h1
      obtain ⟨vx, h0, h1⟩ := Option.bind_eq_some_iff.1 h1
      obtain ⟨p, h2, h3⟩ := Option.map_eq_some_iff.1 ho
      simp only [Prod.mk.injEq] at h3; obtain ⟨rfl, rfl, rfl, rfl⟩ := h3
      exact OT_box e h0 h1 h2
    · cases ho
  case h_4 t x y e =>
    split at ho
    · rename_i vx vy h0 h1
      obtain ⟨p, h2, h3⟩ := Option.map_eq_some_iff.1 ho
      simp only [Prod.mk.injEq] at h3; obtain ⟨rfl, rfl, rfl, rfl⟩ := h3
      exact OT_store e h0 h1 h2
    · cases ho
  case h_5 t len parts e =>
    obtain ⟨p, h2, h3⟩ := Option.map_eq_some_iff.1 ho
    simp only [Prod.mk.injEq] at h3; obtain ⟨rfl, rfl, rfl, rfl⟩ := h3
    exact OT_bs e h2
  case h_6 s x t t' e =>
    split at ho
    · rename_i vs vx h0 h1 h4
      obtain ⟨p, h2, h3⟩ := Option.map_eq_some_iff.1 ho
      simp only [Prod.mk.injEq] at h3; obtain ⟨rfl, rfl, rfl, rfl⟩ := h3
      exact OT_append e h0 h1 h4 h2
    · cases ho
  case h_7 =>
    obtain ⟨p, h2, h3⟩ := Option.map_eq_some_iff.1 ho
    simp only [Prod.mk.injEq] at h3; obtain ⟨rfl, rfl, rfl, rfl⟩ := h3
    exact OT_pure h2
def callOf (o : Oper) : Option (Operand × List Operand) :=
  match o.op with
  | .call c => match c.callee with
    | .value f => some (f, c.args.toList)
    | _ => none
  | _ => none
def CallW (P : Program) (f : Operand) (xs : List Operand) (T : List (Nat × V)) (H : List (Nat × Ent)) (n : Nat) (K : V → List (Nat × Ent) → List Nat → Nat → Prop) : Prop :=
  ∃ F first caps vs gs ks Hs v1 H1, evL (look T) f = some (.a (.fn (.func F) first caps)) ∧ evs (evL (look T)) xs = some vs ∧ entT P F = true ∧ All2 WkV (first.map bv ++ vs ++ caps.map bv) gs ∧ ks.Nodup ∧ (∀ k ∈ ks, k < n) ∧
    lendFrom (look H) 0 ks = some Hs ∧ (∀ key ∈ gs.flatMap keysV, key ∈ ks) ∧ LC P F (gs.map (renV fun k => ks.idxOf k)) Hs v1 H1 ∧ H1.all (fun p => noKeys p.2) = true ∧ (∀ p ∈ H1, ks.length ≤ p.1 → look H (back ks n p.1) = none) ∧
    K (renV (back ks n) v1) (H1.map fun p => (back ks n p.1, p.2)) (ks ++ H1.map fun p => back ks n p.1) (n + H1.length)
def opW (P : Program) (o : Oper) (T : List (Nat × V)) (H : List (Nat × Ent)) (n : Nat) (K : V → List (Nat × Ent) → List Nat → Nat → Prop) : Prop :=
  match callOf o with
  | some (f, xs) => CallW P f xs T H n K
  | none => match opL P o T H n with
    | some (v, sets, rk, n') => K v sets rk n'
    | none => False
structure Ft where
  dst : Option Nat
  wk : List Nat
  rk : List Nat
  sl : List Nat
def gslot (ops : Array Oper) (o : Oper) : Option (Nat × Bool) :=
  match o.guard with
  | some (j, want) => match (ops[j]?).bind (·.dst) with
    | some d => some (d, want)
    | none => none
  | none => none
def slotsOf (ops : Array Oper) (o : Oper) : List Nat :=
  (o.op.operands.toList.filterMap fun | .tmp t => some t | _ => none) ++ (match gslot ops o with
    | some (d, _) => [d]
    | none => [])
def gW (ops : Array Oper) (o : Oper) (T : Nat → Option V) : Option Bool :=
  match o.guard with
  | none => some true
  | some _ => match gslot ops o with
    | some (d, want) => match T d with
      | some (.a (.d (.lit (.bool b)))) => some (b == want)
      | some (.a (.d (.lit (.tuple _)))) => some false
      | _ => none
    | none => none
def wrT (dst : Option Nat) (v : V) : List (Nat × V) :=
  match dst with
  | some d => [(d, v)]
  | none => []
def chainW (P : Program) (N : Nat) (ops : Array Oper) : List Oper → List (Nat × V) → List (Nat × Ent) → Nat → List Ft → (List (Nat × V) → List (Nat × Ent) → Nat → List Ft → Prop) → Prop
  | [], T, H, n, rs, K => K T H n rs
  | o :: r, T, H, n, rs, K =>
    (match o.dst with
      | some d => d < N
      | none => True) ∧
    match gW ops o (look T) with
    | some b => (b = true → opW P o T H n fun v sets rk n' => chainW P N ops r (wrT o.dst v ++ T) (sets ++ H) n' (rs ++ [⟨o.dst, sets.map (·.1), rk, slotsOf ops o⟩]) K) ∧
        (b = false → chainW P N ops r (wrT o.dst (vl undef) ++ T) H n (rs ++ [⟨o.dst, [], [], slotsOf ops o⟩]) K)
    | none => False
structure Rec where
  o : Oper
  v : V
  sets : List (Nat × Ent)
  rk : List Nat
def Rec.ft (ops : Array Oper) (r : Rec) : Ft := ⟨r.o.dst, r.sets.map (·.1), r.rk, slotsOf ops r.o⟩
def Fact (P : Program) (N : Nat) (ops : Array Oper) (r : Rec) (T : Nat → Option V) (h : Hp) : Prop :=
  (∀ d, r.o.dst = some d → d < N) ∧ ((gW ops r.o T = some true ∧ OT P r.o T h r.v r.sets r.rk) ∨ (gW ops r.o T = some false ∧ r.v = vl undef ∧ r.sets = []))
inductive Facts (P : Program) (N : Nat) (ops : Array Oper) : List Rec → List (Nat × V) → List (Nat × Ent) → List (Nat × V) → List (Nat × Ent) → Prop
  | nil (T : List (Nat × V)) (H : List (Nat × Ent)) : Facts P N ops [] T H T H
  | cons (r : Rec) (rs : List Rec) (T T' : List (Nat × V)) (H H' : List (Nat × Ent)) (h : Fact P N ops r (look T) (look H)) (k : Facts P N ops rs (wrT r.o.dst r.v ++ T) (r.sets ++ H) T' H') : Facts P N ops (r :: rs) T H T' H'
theorem look_app {β : Type} : ∀ (xs T : List (Nat × β)), look (xs ++ T) = over xs (look T)
  | [], T => rfl
  | (j, x) :: r, T => by
    funext k
    have ih := congrFun (look_app r T) k
    simp only [List.cons_append, look, over] at ih ⊢
    by_cases hj : j = k
    · rw [if_pos hj, if_pos hj]
    · rw [if_neg hj, if_neg hj]; exact ih
def SR (N : Nat) (γ0 : Gh) (h0 : Hp) (M0 : MS) (w0 : World) (T : Nat → Option V) (h : Hp) (a : Act) (w : World) : Prop :=
  ∃ γ M, Rel γ h M w ∧ TR γ h M w T a ∧ a.tmps.size = N ∧ a.defers = [] ∧ Stp γ0 h0 M0 w0 γ h M w
section
variable {γ γ' : Gh} {h h' : Hp} {M M' : MS} {w w' : World} {T T' : Nat → Option V} {a : Act} {P : Program} {N : Nat} {ops : Array Oper}
theorem TR.stp (s : Stp γ h M w γ' h' M' w') (ht : TR γ h M w T a) : TR γ' h' M' w' T a := ⟨ht.1.fx s.fx, fun d v hd => let ⟨r, h1, h2⟩ := ht.2 d v hd; ⟨r, h1, RdV.stp s h2⟩⟩
theorem TR.put (ht : TR γ h M w T a) {dst : Option Nat} {v : V} {r : Value} (hr : RdV γ h M w v r) (hN : ∀ d, dst = some d → d < a.tmps.size) : TR γ h M w (over (wrT dst v) T) (a.put dst r) := by
  refine ⟨ht.1, fun d u hd => ?_⟩
  cases dst with
  | none => exact ht.2 d u hd
  | some d0 =>
    simp only [wrT] at hd
    by_cases e : d = d0
    · subst e
      simp only [over, look, if_true] at hd
      injection hd with hd; subst hd
      exact ⟨r, by simp [Act.put, hN d rfl], hr⟩
    · have hd' : T d = some u := by simpa [over, look, Ne.symm e] using hd
      obtain ⟨r', h1, h2⟩ := ht.2 d u hd'
      exact ⟨r', by simp only [Act.put]; rw [Array.getElem?_setIfInBounds_ne (Ne.symm e)]; exact h1, h2⟩
theorem gW_ok (ht : TR γ h M w T a) {o : Oper} {b : Bool} (hb : gW ops o T = some b) : Region.wanted o (yielded ops a.tmps) = b := by
  unfold gW at hb
  unfold Region.wanted
  split at hb
  · rename_i hg; injection hb with hb; subst hb; rw [hg]
  · rename_i gd hg
    obtain ⟨j, want⟩ := gd
    rw [hg]
    unfold gslot at hb
    rw [hg] at hb
    simp only at hb
    cases hd : (ops[j]?).bind (·.dst) with
    | none => rw [hd] at hb; cases hb
    | some d =>
      rw [hd] at hb
      simp only at hb
      have hy : yielded ops a.tmps j = match a.tmps[d]? with
          | some (.bool b) => some b
          | _ => none := by
        unfold yielded; rw [hd]; simp only [Option.bind_some]; cases a.tmps[d]? with
        | none => rfl
        | some v => cases v <;> rfl
      simp only [hy]
      split at hb
      · rename_i b' he
        injection hb with hb; subst hb
        obtain ⟨r, h1, h2⟩ := ht.2 d _ he
        rw [h1, lit_inv h2]
        cases b' <;> cases want <;> rfl
      · rename_i vs he
        injection hb with hb; subst hb
        obtain ⟨r, h1, h2⟩ := ht.2 d _ he
        rw [h1, lit_inv h2]
        rfl
      · cases hb
theorem gW_congr {o : Oper} (hT : ∀ d ∈ slotsOf ops o, T' d = T d) : gW ops o T' = gW ops o T := by
  unfold gW
  split
  · rfl
  · split
    · rename_i d want hg
      rw [hT d (by unfold slotsOf; rw [hg]; simp)]
    · rfl
theorem fact_op {γ0 : Gh} {h0 : Hp} {M0 : MS} {w0 : World} (hdom : ∀ b i, M0 b i → b < w0.heap.size) {r : Rec} {i : Nat} {Q : Exit → Act → World → Prop} {K : Act → World → Prop} (f : Fact P N ops r T h) (hT : ∀ d ∈ slotsOf ops r.o, T' d = T d) (hH : ∀ k ∈ r.rk, h' k = h k)
    (hS : SR N γ0 h0 M0 w0 T' h' a w) (ho : ops[i]? = some r.o) (hn : ∀ a' w', SR N γ0 h0 M0 w0 (over (wrT r.o.dst r.v) T') (over r.sets h') a' w' → K a' w') : wpOp P ops Q i K a w := by
  obtain ⟨γ, M, hr, ht, hsz, hdf, hst⟩ := hS
  obtain ⟨hd, hf⟩ := f
  have hdN : ∀ d, r.o.dst = some d → d < a.tmps.size := fun d he => by rw [hsz]; exact hd d he
  unfold wpOp
  rw [ho]
  simp only
  have hsz' : ∀ u, (a.put r.o.dst u).tmps.size = N := by intro u; cases r.o.dst <;> simp [Act.put, hsz]
  have hdf' : ∀ u, (a.put r.o.dst u).defers = [] := by intro u; cases r.o.dst <;> simp [Act.put, hdf]
  rcases hf with ⟨g1, g2⟩ | ⟨g1, g2, g3⟩
  · rw [← gW_congr hT] at g1
    rw [gW_ok ht g1, if_pos rfl]
    refine .inl (g2 T' h' γ M w a _ Q (fun d hm => hT d ?_) hH hr ht fun u γ' M' w' k1 k2 k3 => hn _ _ ⟨γ', M', k1, ?_, hsz' u, hdf' u, hst.trans k3 hdom⟩)
    · unfold slotsOf
      exact List.mem_append_left _ (List.mem_filterMap.2 ⟨.tmp d, by simpa using hm, rfl⟩)
    · exact (ht.stp k3).put k2 hdN
  · rw [← gW_congr hT] at g1
    rw [gW_ok ht g1, if_neg (by simp)]
    refine hn _ _ ⟨γ, M, by rw [g3]; exact hr, by rw [g2, g3]; exact ht.put (.lit _) hdN, hsz' _, hdf' _, by rw [g3]; exact hst⟩
theorem facts_plain {γ0 : Gh} {h0 : Hp} {M0 : MS} {w0 : World} (hdom : ∀ b i, M0 b i → b < w0.heap.size) {Q : Exit → Act → World → Prop} {recs : List Rec} {T T' : List (Nat × V)} {H H' : List (Nat × Ent)} (f : Facts P N ops recs T H T' H') :
    ∀ (i : Nat) (a : Act) (w : World), (∀ j r, recs[j]? = some r → ops[i + j]? = some r.o) → SR N γ0 h0 M0 w0 (look T) (look H) a w → (∀ a' w', SR N γ0 h0 M0 w0 (look T') (look H') a' w' → Q .normal a' w') → wpOps P ops Q ((List.range recs.length).map (i + ·)) a w := by
  induction f with
  | nil T H => intro i a w _ hS hQ; exact hQ _ _ hS
  | cons r rs T T' H H' hf k ih =>
    intro i a w hops hS hQ
    rw [List.length_cons, List.range_succ_eq_map, List.map_cons, List.map_map, wpOps_cons]
    refine fact_op hdom hf (fun _ _ => rfl) (fun _ _ => rfl) hS (by simpa using hops 0 r rfl) fun a' w' hS' => ?_
    have := ih (i + 1) a' w' (fun j r' hj => by rw [show i + 1 + j = i + (j + 1) from by omega]; exact hops (j + 1) r' (by simpa using hj)) (by rw [look_app, look_app]; exact hS') hQ
    have e : ((fun x => i + x) ∘ Nat.succ) = fun x => i + 1 + x := by funext x; simp; omega
    rw [e]; exact this
end
end Go.Proofs.YtikglhmabidjoaaGreatDoor.Lf
