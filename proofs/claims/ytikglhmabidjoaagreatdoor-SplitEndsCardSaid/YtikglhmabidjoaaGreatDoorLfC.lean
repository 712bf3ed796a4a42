/- Lifted values: the operations that look at memory of the call's own, make some, write some. No program in sight. -/
import Derived.Test.YtikglhmabidjoaaGreatDoorLfB
import Derived.Test.YtikglhmabidjoaaGreatDoorBa
namespace Go.Proofs.YtikglhmabidjoaaGreatDoor.Lf
open Go.RowKit Nt
set_option linter.unusedVariables false
set_option linter.unusedSimpArgs false
def over {β : Type} (sets : List (Nat × β)) (h : Nat → Option β) : Nat → Option β := fun k => match look sets k with
  | some e => some e
  | none => h k
theorem over_same {n : Nat} {e : Ent} {h : Hp} : over [(n, e)] h n = some e := by simp [over, look]
theorem over_other {n k : Nat} {e : Ent} {h : Hp} (hk : k ≠ n) : over [(n, e)] h k = h k := by simp [over, look, Ne.symm hk]
def upd (γ : Gh) (n : Nat) (v : Value) : Gh := fun k => if k = n then v else γ k
theorem upd_same {γ : Gh} {n : Nat} {v : Value} : upd γ n v n = v := by simp [upd]
theorem upd_other {γ : Gh} {n k : Nat} {v : Value} (hk : k ≠ n) : upd γ n v k = γ k := by simp [upd, hk]
def OT (P : Program) (o : Oper) (T : Nat → Option V) (h : Hp) (v : V) (sets : List (Nat × Ent)) (rk : List Nat) : Prop :=
  ∀ (T' : Nat → Option V) (h' : Hp) (γ : Gh) (M : MS) (w : World) (a : Act) (next : Act → World → Prop) (Q : Exit → Act → World → Prop),
    (∀ d, Operand.tmp d ∈ o.op.operands → T' d = T d) → (∀ k, k ∈ rk → h' k = h k) → Rel γ h' M w → TR γ h' M w T' a →
    (∀ r γ' M' w', Rel γ' (over sets h') M' w' → RdV γ' (over sets h') M' w' v r → Stp γ h' M w γ' (over sets h') M' w' → next (a.put o.dst r) w') →
    o.wp P a w next Q
section
variable {γ γ' : Gh} {h h' : Hp} {M M' : MS} {w w' : World} {T T' : Nat → Option V} {a : Act} {P : Program}
theorem evL_congr {x : Operand} (hx : ∀ d, x = .tmp d → T' d = T d) : evL T' x = evL T x := by
  cases x with
  | tmp d => exact hx d rfl
  | _ => rfl
theorem blk_lt (r : Rel γ h M w) {key : Nat} {e : Ent} (he : h key = some e) (hl : live (some e) = true) {b : Nat} (hb : blk (γ key) = some b) : b < w.heap.size := by
  have := r.ent key e he
  cases e with
  | gone => cases hl
  | box t cs =>
    obtain ⟨g, vs, h1, h2, _⟩ := this
    rw [h1] at hb
    simp [blk] at hb
    subst hb
    exact lt_of_block h2
  | mp φ =>
    obtain ⟨g, o, h1, h2, _, es, c, rfl⟩ := this
    rw [h1] at hb; simp [blk] at hb; subst hb
    exact lt_of_block h2
  | tab e k rows =>
    obtain ⟨g, vs, h1, h2, _⟩ := this
    rw [h1] at hb; simp [blk] at hb; subst hb
    exact lt_of_block h2
  | arr e k n =>
    obtain ⟨xs, h1, h2⟩ := this
    rcases h2 with ⟨h2, _⟩ | ⟨g, cap, cur, h2, _, h3, _⟩
    · rw [h2] at hb; cases hb
    · rw [h2] at hb; simp [blk] at hb; subst hb; exact lt_of_block h3
theorem EntR.stp (s : Stp γ h M w γ' h' M' w') {key : Nat} {e : Ent} (k : EntR γ h M w key e) (hg : γ' key = γ key) (hb : live (some e) = true → ∀ b, blk (γ key) = some b → w'.heap[b]? = w.heap[b]?) : EntR γ' h' M' w' key e := by
  cases e with
  | gone => trivial
  | box t cs =>
    obtain ⟨g, vs, h1, h2, h3⟩ := k
    exact ⟨g, vs, by rw [hg, h1], by rw [hb rfl g (by rw [h1]; rfl), h2], All2.imp (fun _ _ => RdA.stp s) h3⟩
  | mp φ =>
    obtain ⟨g, o, h1, h2, h3⟩ := k
    exact ⟨g, o, by rw [hg, h1], by rw [hb rfl g (by rw [h1]; rfl), h2], h3⟩
  | tab t k rows =>
    obtain ⟨g, vs, h1, h2, h4, h3, h5⟩ := k
    exact ⟨g, vs, by rw [hg, h1], by rw [hb rfl g (by rw [h1]; rfl), h2], h4, All2.imp (fun _ _ => RdD.fx s.fx) h3, h5⟩
  | arr e k n =>
    obtain ⟨xs, h1, h2⟩ := k
    refine ⟨xs, h1, ?_⟩
    rw [hg]
    rcases h2 with h2 | ⟨g, cap, cur, h2, h4, h3, h5⟩
    · exact .inl h2
    · exact .inr ⟨g, cap, cur, h2, h4, by rw [hb rfl g (by rw [h2]; rfl), h3], h5⟩
theorem owns_live {key b i : Nat} (ho : Owns γ h key b i) : live (h key) = true ∧ blk (γ key) = some b := by
  unfold Owns at ho
  cases he : h key with
  | none => rw [he] at ho; exact ho.elim
  | some e =>
    rw [he] at ho
    cases e with
    | gone => exact ho.elim
    | box => exact ⟨rfl, ho⟩
    | tab => exact ⟨rfl, ho⟩
    | mp => exact ⟨rfl, ho⟩
    | arr => exact ⟨rfl, ho.1⟩
theorem owns_congr {key b i : Nat} (hg : γ' key = γ key) (hh : h' key = h key) : Owns γ' h' key b i ↔ Owns γ h key b i := by
  unfold Owns; rw [hh, hg]
theorem stp_new (r : Rel γ h M w) {n : Nat} {e : Ent} (hn : ∀ e1, h n = some e1 → Goes e1 e ∧ Grown1 e1 e) {v : Value} {cs : Array Value} {t : TypeId} {w1 : World} (h0 : w1.heap = w.heap) (h1 : w1.os = w.os) (h2 : w1.tape = w.tape) (h3 : w1.output = w.output) {m : Nat} (hb : ∀ b, blk v = some b → b = w.heap.size) :
    Stp γ h M w (upd γ n v) (over [(n, e)] h) (fun b i => M b i ∨ b = w.heap.size ∧ m ≤ i) (w1.alloc (.cells cs t)) := by
  have hold : ∀ b, b < w.heap.size → (w1.alloc (.cells cs t)).heap[b]? = w.heap[b]? := by
    intro b hb
    rw [← h0] at hb ⊢
    exact Below.heap_alloc _ _ _ hb
  refine ⟨h1, h2, h3, by simp [h0], fun b i u k => ?_, fun b hb _ => hold b hb, fun b i k _ => .inl k, fun key b i ho hb => ?_, fun key e' he => ?_⟩
  · have hlt : b < w.heap.size := World.block_lt_of_cell? _ _ k.2
    refine ⟨fun k2 => k2.elim k.1 fun k3 => by omega, ?_⟩
    rw [← k.2]
    exact World.cell?_of_block (a := ⟨b, i, none⟩) (hold b hlt)
  · by_cases e1 : key = n
    · subst e1
      have h4 := hb
      obtain ⟨_, h5⟩ := owns_live ho
      rw [upd_same] at h5
      have := ‹∀ b, blk v = some b → b = w.heap.size› b h5
      omega
    · exact ⟨key, (owns_congr (upd_other e1) (over_other e1)).1 ho⟩
  · by_cases e1 : key = n
    · subst e1
      exact ⟨e, over_same, (hn e' he).1, .inr (hn e' he).2⟩
    · exact ⟨e', by rw [over_other e1]; exact he, Goes.refl _, .inl (upd_other e1)⟩
theorem rel_new (r : Rel γ h M w) {n : Nat} {e : Ent} (hn : ∀ e1, h n = some e1 → Goes e1 e ∧ Grown1 e1 e) {v : Value} {cs : Array Value} {t : TypeId} {w1 : World} (h0 : w1.heap = w.heap) (h1 : w1.os = w.os) (h2 : w1.tape = w.tape) (h3 : w1.output = w.output) {m : Nat} (hb : ∀ b, blk v = some b → b = w.heap.size)
    (he : EntR (upd γ n v) (over [(n, e)] h) (fun b i => M b i ∨ b = w.heap.size ∧ m ≤ i) (w1.alloc (.cells cs t)) n e) (ho : ∀ b i, Owns (upd γ n v) (over [(n, e)] h) n b i → m ≤ i) (hu : ∀ i x, m ≤ i → cs[i]? = some x → ∀ z, x ≠ .int .u32 z) :
    Rel (upd γ n v) (over [(n, e)] h) (fun b i => M b i ∨ b = w.heap.size ∧ m ≤ i) (w1.alloc (.cells cs t)) := by
  have s := stp_new r hn (v := v) (cs := cs) (t := t) h0 h1 h2 h3 (m := m) hb
  have hold : ∀ b, b < w.heap.size → (w1.alloc (.cells cs t)).heap[b]? = w.heap[b]? := by
    intro b hb
    rw [← h0] at hb ⊢
    exact Below.heap_alloc _ _ _ hb
  refine ⟨fun key e' h4 => ?_, fun key b i h4 => ?_, fun key key' b h4 h5 h6 h7 => ?_, fun b i z h4 => ?_, fun b i h4 => ?_, r.glb.fx s.fx⟩
  · by_cases e1 : key = n
    · subst e1
      rw [over_same] at h4
      injection h4 with h4; subst h4
      exact he
    · rw [over_other e1] at h4
      exact EntR.stp s (r.ent key e' h4) (upd_other e1) fun hl b h5 => hold b (blk_lt r h4 hl h5)
  · by_cases e1 : key = n
    · subst e1
      obtain ⟨_, h5⟩ := owns_live h4
      rw [upd_same] at h5
      exact .inr ⟨hb b h5, ho b i h4⟩
    · exact .inl (r.own key b i ((owns_congr (upd_other e1) (over_other e1)).1 h4))
  · by_cases e1 : key = n <;> by_cases e2 : key' = n
    · rw [e1, e2]
    · subst e1
      rw [over_other e2] at h5
      rw [upd_same] at h6
      rw [upd_other e2] at h7
      cases h8 : h key' with
      | none => rw [h8] at h5; cases h5
      | some e3 =>
        have := blk_lt r h8 (by rw [← h8]; exact h5) h7
        have := hb b h6
        omega
    · subst e2
      rw [over_other e1] at h4
      rw [upd_other e1] at h6
      rw [upd_same] at h7
      cases h8 : h key with
      | none => rw [h8] at h4; cases h4
      | some e3 =>
        have := blk_lt r h8 (by rw [← h8]; exact h4) h6
        have := hb b h7
        omega
    · rw [over_other e1] at h4
      rw [over_other e2] at h5
      rw [upd_other e1] at h6
      rw [upd_other e2] at h7
      exact r.inj key key' b h4 h5 h6 h7
  · rcases h4 with h4 | ⟨rfl, h4⟩
    · rw [World.cell?_of_block (w := w) (a := ⟨b, i, none⟩) (hold b (r.dom b i h4))]
      exact r.u32 b i z h4
    · intro h5
      rw [← h0, World.cell?_alloc_new] at h5
      exact hu i _ h4 h5 z rfl
  · rcases h4 with h4 | ⟨rfl, h4⟩
    · have := r.dom b i h4
      simp [h0]; omega
    · simp [h0]
theorem mapB_congr {ev ev' : Operand → Option V} : ∀ {xs : List Operand}, (∀ x, x ∈ xs → ev' x = ev x) → mapB ev' xs = mapB ev xs
  | [], _ => rfl
  | x :: r, hc => by simp only [mapB, vToB]; rw [hc x (by simp), mapB_congr fun y hy => hc y (by simp [hy])]
theorem fillL_congr {place : Nat → Option (Nat × Nat)} {ev ev' : Operand → Option V} : ∀ {ps : List (Nat × Operand)} {cs : List A}, (∀ p, p ∈ ps → ev' p.2 = ev p.2) → fillL place ev' ps cs = fillL place ev ps cs
  | [], _, _ => rfl
  | (i, x) :: r, cs, hc => by
    have ih : ∀ cs, fillL place ev' r cs = fillL place ev r cs := fun cs => fillL_congr fun y hy => hc y (by simp [hy])
    have h1 : ev' x = ev x := hc (i, x) (by simp)
    simp only [fillL, h1, ih]
theorem natO_congr {ev ev' : Operand → Option V} {d : Nat} {x : Option Operand} (hc : ∀ y, x = some y → ev' y = ev y) : natO ev' d x = natO ev d x := by
  cases x with
  | none => rfl
  | some y => simp only [natO]; rw [hc y rfl]
theorem pureL_congr {o : Oper} {ev ev' : Operand → Option V} (hc : ∀ x, x ∈ o.op.operands → ev' x = ev x) : pureL P ev' o = pureL P ev o := by
  unfold pureL
  split
  case h_13 fn first caps e =>
    rw [e] at hc
    rw [mapB_congr (fun x hx => hc x (by simp [Op.operands]; exact .inl (by simpa using hx))), mapB_congr (fun x hx => hc x (by simp [Op.operands]; exact .inr (by simpa using hx)))]
  case h_14 t parts e =>
    rw [e] at hc
    split
    · rw [fillL_congr fun p hp => hc p.2 (by simp [Op.operands]; exact ⟨p.1, by simpa using hp⟩)]
    · rfl
  case h_15 t x lo hi mx e =>
    rw [e] at hc
    rw [hc x (by simp [Op.operands])]
    split
    · rename_i k xs ee s h1 h2
      rw [natO_congr (x := lo) fun y hy => hc y (by simp [Op.operands, hy]), natO_congr (x := hi) fun y hy => hc y (by simp [Op.operands, hy]), natO_congr (x := mx) fun y hy => hc y (by simp [Op.operands, hy])]
    · rfl
  all_goals first
    | rfl
    | (rename_i e; rw [e] at hc; simp [Op.operands, Call.operands] at hc; simp [hc])
theorem OT_pure {o : Oper} {v : V} (hp : pureL P (evL T) o = some v) : OT P o T h v [] [] := by
  intro T' h' γ M w a next Q hT hk hr ht hn
  have hp' : pureL P (evL T') o = some v := by
    rw [← hp]
    refine pureL_congr fun x hx => evL_congr fun d hd => hT d (hd ▸ hx)
  obtain ⟨r, h1, h2⟩ := pureL_ok ht hp'
  unfold Oper.wp
  rw [h1]
  exact hn r γ M w hr h2 (Stp.refl _ _ _ _)
def loadL (P : Program) (t : TypeId) (h : Hp) : V → Option (V × List Nat)
  | .a (.ptr key off) => match h key, aggT P t, sizeT P t with
    | some (.box _ cs), some ag, some s => (oneL ag ((cs.drop off).take s) s).map fun v => (v, [key])
    | _, _, _ => none
  | .a (.elt row off) => match aggT P t, sizeT P t with
    | some ag, some s => (oneL ag (((row.drop off).take s).map .d) s).map fun v => (v, [])
    | _, _ => none
  | _ => none
theorem loadVar_run {t : TypeId} {ag : Bool} {s : Nat} (h1 : aggT P t = some ag) (h2 : sizeT P t = some s) (h3 : ag = false → s = 1) {b off : Nat} {vs : List Value} (hl : vs.length = s) (hc : ∀ j u, vs[j]? = some u → w.cell? ⟨b, off + j, none⟩ = some u) :
    (loadVar t ⟨b, off, none⟩).run P w = .ok (if ag then .agg vs.toArray else vs.headD undef) w := by
  unfold loadVar
  cases ag
  · have := h3 rfl
    subst this
    obtain ⟨u, rfl⟩ : ∃ u, vs = [u] := List.length_eq_one_iff.1 hl
    have := hc 0 u rfl
    simp only [Nat.add_zero] at this
    simp [aggT_run h1, this]
  · have := run_loadCells_list (P := P) w ⟨b, off, none⟩ vs (fun j u hj => by rw [Addr.add_lit]; exact hc j u hj)
    rw [hl] at this
    simp [aggT_run h1, sizeT_run h2, this]
theorem elt_vs {row : List D} {b o : Nat} {f : Nat → Value} (hf : ∀ (j : Nat) d, row[j]? = some d → Fx M w b (o + j) (f j) ∧ RdD M w d (f j)) (off s : Nat) :
    ∃ vs : List Value, All2 (RdA γ h M w) (((row.drop off).take s).map .d) vs ∧ ∀ j u, vs[j]? = some u → w.cell? ⟨b, o + off + j, none⟩ = some u := by
  refine ⟨(List.range ((row.drop off).take s).length).map fun j => f (off + j), All2.of_get (by simp) (fun i x y hx hy => ?_), fun j u hj => ?_⟩
  · rw [List.getElem?_map] at hx hy
    obtain ⟨d, hd, rfl⟩ := Option.map_eq_some_iff.1 hx
    obtain ⟨q, hq, rfl⟩ := Option.map_eq_some_iff.1 hy
    have hq' : q = i := by
      have := List.getElem?_eq_some_iff.1 hq
      obtain ⟨h1, h2⟩ := this
      simpa using h2.symm
    subst hq'
    rw [List.getElem?_take, List.getElem?_drop] at hd
    split at hd
    · exact (hf _ _ hd).2
    · cases hd
  · rw [List.getElem?_map] at hj
    obtain ⟨q, hq, rfl⟩ := Option.map_eq_some_iff.1 hj
    obtain ⟨h1, h2⟩ := List.getElem?_eq_some_iff.1 hq
    have hq' : q = j := by simpa using h2.symm
    subst hq'
    have hlt : q < ((row.drop off).take s).length := by simpa using h1
    have hd : row[off + q]? = some (row[off + q]'(by simp at hlt; omega)) := List.getElem?_eq_getElem _
    have := (hf _ _ hd).1.2
    rwa [Nat.add_assoc]
theorem OT_load {o : Oper} {t : TypeId} {x : Operand} {vx v : V} {rk : List Nat} (ho : o.op = .load t x) (hx : evL T x = some vx) (hl : loadL P t h vx = some (v, rk)) : OT P o T h v [] rk := by
  intro T' h' γ M w a next Q hT hk hr ht hn
  have hx' : evL T' x = some vx := by
    rw [← hx]; exact evL_congr fun d hd => hT d (by rw [ho]; simp [Op.operands, hd])
  have hv := evL_ok ht hx'
  suffices hs : ∃ r, (Instr.loadAt t (a.eval x)).run P w = .ok r w ∧ RdV γ h' M w v r by
    obtain ⟨r, h1, h2⟩ := hs
    unfold Oper.wp
    have : (execOp a.eval o).run P w = .ok (.value r) w := by simp [execOp, ho, h1]
    rw [this]
    exact hn r γ M w hr h2 (Stp.refl _ _ _ _)
  unfold loadL at hl
  split at hl
  · rename_i key off
    split at hl
    · rename_i tb cs ag s h1 h2 h3
      obtain ⟨v', h4, h5⟩ := Option.map_eq_some_iff.1 hl
      injection h5 with h5 h6; subst h5 h6
      obtain ⟨_, g, k1, k2⟩ := hv
      obtain ⟨g', vs, k3, k4, k5⟩ := hr.ent key _ ((hk key (by simp)).trans h1)
      rw [k1] at k3; injection k3 with k3; injection k3 with k3; injection k3 with k3; subst k3
      have k6 := All2.take s (All2.drop off k5)
      obtain ⟨k7, k8⟩ := oneL_ok h4 k6
      refine ⟨_, ?_, k8⟩
      rw [k2]
      simp only [Instr.loadAt, Instr.sureAddr, Sem.run_bind, Sem.run_pure, Result.andThen_ok]
      refine loadVar_run h2 h3 (fun e => by subst e; exact oneL_one h4) k7 fun j u hj => ?_
      rw [List.getElem?_take, List.getElem?_drop] at hj
      split at hj
      · simp [World.cell?, k4, hj]
      · cases hj
    · cases hl
  · rename_i row off
    split at hl
    · rename_i ag s h2 h3
      obtain ⟨v', h4, h5⟩ := Option.map_eq_some_iff.1 hl
      injection h5 with h5 h6; subst h5 h6
      obtain ⟨b, oo, f, k1, k2⟩ := hv
      obtain ⟨vs, k3, k4⟩ := elt_vs (γ := γ) (h := h') k2 off s
      obtain ⟨k7, k8⟩ := oneL_ok h4 k3
      refine ⟨_, ?_, k8⟩
      rw [k1]
      simp only [Instr.loadAt, Instr.sureAddr, Sem.run_bind, Sem.run_pure, Result.andThen_ok]
      exact loadVar_run h2 h3 (fun e => by subst e; exact oneL_one h4) k7 k4
    · cases hl
  · cases hl
theorem plainA_u32 {x : A} {v : Value} (hx : RdA γ h M w x v) (hp : plainA x = true) : ∀ z, v ≠ .int .u32 z := by
  intro z e
  subst e
  cases x with
  | d x =>
    rcases rdD_slice hx with ⟨u, rfl⟩ | ⟨_, _, _, e⟩
    · have := lit_inv hx; subst this; cases hp
    · cases e
  | ptr => obtain ⟨_, g, _, e⟩ := hx; cases e
  | own =>
    rcases rdD_slice hx.1 with ⟨u, e⟩ | ⟨_, _, _, e⟩ <;> cases e
  | elt => obtain ⟨_, _, _, e, _⟩ := hx; cases e
  | fn => obtain ⟨_, _, e, _⟩ := hx; cases e
  | tab => obtain ⟨_, ⟨_, _, e⟩, _⟩ := hx; cases e
  | mp => obtain ⟨_, _, _, e⟩ := hx; cases e
theorem plain_all {cs : List A} {vs : List Value} (k : All2 (RdA γ h M w) cs vs) (hp : cs.all plainA = true) : ∀ (i : Nat) (x : Value), vs.toArray[i]? = some x → ∀ z : Int, x ≠ .int .u32 z := by
  intro i x hi
  have hi' : vs[i]? = some x := by simpa using hi
  have hlt := (List.getElem?_eq_some_iff.1 hi').1
  have hl := k.len
  obtain ⟨y, h1, h2⟩ := All2.get k (i := i) (x := cs[i]) (List.getElem?_eq_getElem (by omega))
  rw [hi'] at h1
  injection h1 with h1; subst h1
  exact plainA_u32 h2 (List.all_eq_true.1 hp _ (List.getElem_mem _))
theorem new_box (r : Rel γ h M w) {n : Nat} (hn : h n = none) {t : TypeId} {cs : List A} {vs : List Value} (k : All2 (RdA γ h M w) cs vs) (hp : cs.all plainA = true) :
    ∃ γ' M', Rel γ' (over [(n, .box t cs)] h) M' (w.alloc (.cells vs.toArray t)) ∧ RdV γ' (over [(n, .box t cs)] h) M' (w.alloc (.cells vs.toArray t)) (.a (.ptr n 0)) (.pointer (some ⟨w.heap.size, 0, none⟩)) ∧
      Stp γ h M w γ' (over [(n, .box t cs)] h) M' (w.alloc (.cells vs.toArray t)) := by
  have hb : ∀ b, blk (.pointer (some ⟨w.heap.size, 0, none⟩)) = some b → b = w.heap.size := by intro b hb; simp [blk] at hb; exact hb.symm
  have hn' : ∀ e1, h n = some e1 → Goes e1 (.box t cs) ∧ Grown1 e1 (.box t cs) := fun e1 he => by rw [hn] at he; cases he
  have s := stp_new r hn' (e := .box t cs) (v := .pointer (some ⟨w.heap.size, 0, none⟩)) (cs := vs.toArray) (t := t) (w1 := w) rfl rfl rfl rfl (m := 0) hb
  refine ⟨_, _, rel_new r hn' rfl rfl rfl rfl (m := 0) hb ⟨_, vs, upd_same, heap_alloc_new w _, All2.imp (fun _ _ => RdA.stp s) k⟩ (fun _ i _ => Nat.zero_le i) (fun i x _ hi => plain_all k hp i x hi), ⟨by rw [over_same]; rfl, _, upd_same, rfl⟩, s⟩
def boxL (t : TypeId) (cs : List A) (n : Nat) (h : Hp) : Option (V × List (Nat × Ent) × List Nat) :=
  if (h n).isNone = true ∧ cs.all plainA = true then some (.a (.ptr n 0), [(n, .box t cs)], [n]) else none
theorem OT_alloc {o : Oper} {t : TypeId} {zs : List A} {n : Nat} {v : V} {sets : List (Nat × Ent)} {rk : List Nat} (ho : o.op = .alloc t) (hz : zeroT P zv t = some zs) (hb : boxL t zs n h = some (v, sets, rk)) : OT P o T h v sets rk := by
  unfold boxL at hb
  split at hb
  · rename_i hc
    injection hb with hb; injection hb with h1 h2; injection h2 with h2 h3; subst h1 h2 h3
    intro T' h' γ M w a next Q hT hk hr ht hn
    obtain ⟨i, z, e1, e2, k1⟩ := zeroT_ok (γ := γ) (h := h') (M := M) (w := w) zv_ok hz
    have hfree : h' n = none := (hk n (by simp)).trans (by simpa using hc.1)
    obtain ⟨γ', M', k2, k3, k4⟩ := new_box hr hfree (t := t) k1 hc.2
    unfold Oper.wp
    have : (execOp a.eval o).run P w = .ok (.value (.pointer (some ⟨w.heap.size, 0, none⟩))) (w.alloc (.cells z.cells t)) := by
      simp [execOp, ho, Instr.alloc, zeroValue, typeInfo, e1, e2, newVar, newRow]
    rw [this]
    have e3 : z.cells.toList.toArray = z.cells := by simp
    rw [e3] at k2 k3 k4
    exact hn _ γ' M' _ k2 k3 k4
  · cases hb
theorem OT_box {o : Oper} {t : TypeId} {x : Operand} {vx v : V} {xs : List A} {n : Nat} {sets : List (Nat × Ent)} {rk : List Nat} (ho : o.op = .box t x) (hx : evL T x = some vx) (hc : cellsV vx = some xs) (hb : boxL t xs n h = some (v, sets, rk)) : OT P o T h v sets rk := by
  unfold boxL at hb
  split at hb
  · rename_i hcc
    injection hb with hb; injection hb with h1 h2; injection h2 with h2 h3; subst h1 h2 h3
    intro T' h' γ M w a next Q hT hk hr ht hn
    have hx' : evL T' x = some vx := by
      rw [← hx]; exact evL_congr fun d hd => hT d (by rw [ho]; simp [Op.operands, hd])
    obtain ⟨vs, k0, k1⟩ := cellsV_ok (evL_ok ht hx') hc
    have hfree : h' n = none := (hk n (by simp)).trans (by simpa using hcc.1)
    obtain ⟨γ', M', k2, k3, k4⟩ := new_box hr hfree (t := t) k1 hcc.2
    unfold Oper.wp
    have : (execOp a.eval o).run P w = .ok (.value (.pointer (some ⟨w.heap.size, 0, none⟩))) (w.alloc (.cells vs.toArray t)) := by
      simp [execOp, ho, Instr.box, newVar, newRow, k0]
    rw [this]
    exact hn _ γ' M' _ k2 k3 k4
  · cases hb
def storeL (P : Program) (t : TypeId) (h : Hp) : V → V → Option (List (Nat × Ent) × List Nat)
  | .a (.ptr key off), vx => match h key, sizeT P t, cellsV vx with
    | some (.box tb cs), some s, some xs => if xs.length = s ∧ off + s ≤ cs.length ∧ xs.all plainA = true then some ([(key, .box tb (cs.take off ++ xs ++ cs.drop (off + s)))], [key]) else none
    | _, _, _ => none
  | _, _ => none
theorem plain_one {x : A} {v : Value} (hx : RdA γ h M w x v) (hp : plainA x = true) : v.oneCell' = true := by
  cases x with
  | d x =>
    rcases rdD_slice hx with ⟨u, rfl⟩ | ⟨_, _, _, e⟩
    · have := lit_inv hx; subst this; cases v <;> first | rfl | cases hp
    · subst e; rfl
  | ptr => obtain ⟨_, g, _, e⟩ := hx; subst e; rfl
  | own =>
    rcases rdD_slice hx.1 with ⟨u, e⟩ | ⟨_, _, _, e⟩
    · cases e
    · subst e; rfl
  | elt => obtain ⟨_, _, _, e, _⟩ := hx; subst e; rfl
  | fn => obtain ⟨_, _, e, _⟩ := hx; subst e; rfl
  | tab => obtain ⟨_, ⟨_, _, e⟩, _⟩ := hx; subst e; rfl
  | mp => obtain ⟨_, _, _, e⟩ := hx; subst e; rfl
theorem set_box (r : Rel γ h M w) {key g : Nat} {t : TypeId} {cs cs' : List A} {vs vs' : List Value} (hk : h key = some (.box t cs)) (hg : γ key = .pointer (some ⟨g, 0, none⟩)) (hw : w.heap[g]? = some (.cells vs.toArray t (0, 0)))
    (hw' : w'.heap[g]? = some (.cells vs'.toArray t (0, 0))) (ho : ∀ b, b ≠ g → w'.heap[b]? = w.heap[b]?) (h1 : w'.os = w.os) (h2 : w'.tape = w.tape) (h3 : w'.output = w.output) (hs : w'.heap.size = w.heap.size)
    (k : All2 (RdA γ h M w) cs' vs') (hp : ∀ (i : Nat) (x : Value), vs'.toArray[i]? = some x → ∀ z : Int, x ≠ .int .u32 z) :
    Rel γ (over [(key, .box t cs')] h) M w' ∧ Stp γ h M w γ (over [(key, .box t cs')] h) M w' := by
  have hM : ∀ i, M g i := fun i => r.own key g i (by unfold Owns; rw [hk]; simp [hg, blk])
  have hown : ∀ key' b i, Owns γ (over [(key, .box t cs')] h) key' b i ↔ Owns γ h key' b i := by
    intro key' b i
    by_cases e : key' = key
    · subst e; unfold Owns; rw [over_same, hk]
    · exact owns_congr rfl (over_other e)
  have s : Stp γ h M w γ (over [(key, .box t cs')] h) M w' := by
    refine ⟨h1, h2, h3, by omega, fun b i u k => ?_, fun b hb hn => ?_, fun b i k _ => k, fun key' b i k _ => ⟨key', (hown _ _ _).1 k⟩, fun key' e he => ?_⟩
    · have hne : b ≠ g := fun e => k.1 (e ▸ hM i)
      exact ⟨k.1, by rw [← k.2]; exact World.cell?_of_block (a := ⟨b, i, none⟩) (ho b hne)⟩
    · refine ho b fun e => hn key 0 ?_
      subst e; unfold Owns; rw [hk]; simp [hg, blk]
    · by_cases e1 : key' = key
      · subst e1
        rw [hk] at he; injection he with he; subst he
        exact ⟨_, over_same, trivial, .inl rfl⟩
      · exact ⟨e, by rw [over_other e1]; exact he, Goes.refl _, .inl rfl⟩
  refine ⟨⟨fun key' e he => ?_, fun key' b i k => r.own key' b i ((hown _ _ _).1 k), fun key1 key2 b l1 l2 => ?_, fun b i z hm => ?_, fun b i hm => by rw [hs]; exact r.dom b i hm, r.glb.fx s.fx⟩, s⟩
  · by_cases e1 : key' = key
    · subst e1
      rw [over_same] at he; injection he with he; subst he
      exact ⟨g, vs', hg, hw', All2.imp (fun _ _ => RdA.stp s) k⟩
    · rw [over_other e1] at he
      refine EntR.stp s (r.ent key' e he) rfl fun hl b hb => ho b fun e2 => e1 ?_
      exact r.inj key' key b (by rw [he]; exact hl) (by rw [hk]; rfl) hb (by rw [hg, e2]; rfl)
  · have : ∀ k0, live (over [(key, .box t cs')] h k0) = true → live (h k0) = true := by
      intro k0 hl
      by_cases e1 : k0 = key
      · subst e1; rw [hk]; rfl
      · rwa [over_other e1] at hl
    exact r.inj key1 key2 b (this _ l1) (this _ l2)
  · by_cases e1 : b = g
    · subst e1
      intro h5
      have : vs'.toArray[i]? = some (.int .u32 z) := by simpa [World.cell?, hw'] using h5
      exact hp i _ this z rfl
    · rw [World.cell?_of_block (w := w) (a := ⟨b, i, none⟩) (ho b e1)]
      exact r.u32 b i z hm
theorem OT_store {o : Oper} {t : TypeId} {x y : Operand} {vx vy : V} {sets : List (Nat × Ent)} {rk : List Nat} (ho : o.op = .store t x y) (hx : evL T x = some vx) (hy : evL T y = some vy) (hs : storeL P t h vx vy = some (sets, rk)) : OT P o T h (vl undef) sets rk := by
  unfold storeL at hs
  split at hs
  · rename_i key off
    split at hs
    · rename_i tb cs s xs h1 h2 h3
      split at hs
      · rename_i hc
        obtain ⟨c1, c2, c3⟩ := hc
        injection hs with hs; injection hs with e1 e2; subst e1 e2
        intro T' h' γ M w a next Q hT hk hr ht hn
        have hx' : evL T' x = some (.a (.ptr key off)) := by
          rw [← hx]; exact evL_congr fun d hd => hT d (by rw [ho]; simp [Op.operands, hd])
        have hy' : evL T' y = some vy := by
          rw [← hy]; exact evL_congr fun d hd => hT d (by rw [ho]; simp [Op.operands, hd])
        have hkey := (hk key (by simp)).trans h1
        obtain ⟨_, g, k1, k2⟩ := evL_ok ht hx'
        obtain ⟨us, k3, k4⟩ := cellsV_ok (evL_ok ht hy') h3
        obtain ⟨g', vs, k5, k6, k7⟩ := hr.ent key _ hkey
        rw [k1] at k5; injection k5 with k5; injection k5 with k5; injection k5 with k5; subst k5
        have hul : us.length = s := by rw [← c1]; exact k4.len.symm
        have hvl := k7.len
        have hone : ∀ v ∈ us, v.oneCell' = true := by
          intro v hv
          obtain ⟨i, hi⟩ := List.mem_iff_getElem?.1 hv
          have hlt := (List.getElem?_eq_some_iff.1 hi).1
          obtain ⟨q, q1, q2⟩ := All2.get k4 (i := i) (x := xs[i]'(by omega)) (List.getElem?_eq_getElem _)
          rw [hi] at q1; injection q1 with q1; subst q1
          exact plain_one q2 (List.all_eq_true.1 c3 _ (List.getElem_mem _))
        have hrun := run_storeCells_at P g off tb us 0 vs.toArray w k6 (by simp; omega) hone
        have k8 : All2 (RdA γ h' M w) (cs.take off ++ xs ++ cs.drop (off + s)) (vs.take off ++ us ++ vs.drop (off + s)) := All2.app (All2.app (All2.take _ k7) k4) (All2.drop _ k7)
        simp only [Nat.add_zero, List.toList_toArray, hul] at hrun
        have hpl : ∀ (i : Nat) (x : Value), (vs.take off ++ us ++ vs.drop (off + s)).toArray[i]? = some x → ∀ z : Int, x ≠ .int .u32 z := by
          intro i x hi
          have hi' : (vs.take off ++ us ++ vs.drop (off + s))[i]? = some x := by simpa using hi
          rcases List.mem_append.1 (List.mem_of_getElem? hi') with hm | hm
          · rcases List.mem_append.1 hm with hm | hm
            · obtain ⟨j, hj⟩ := List.mem_iff_getElem?.1 (List.mem_of_mem_take hm)
              intro z e
              refine hr.u32 g j z (hr.own key g j (by unfold Owns; rw [hkey]; simp [k1, blk])) ?_
              simp [World.cell?, k6, hj, e]
            · obtain ⟨j, hj⟩ := List.mem_iff_getElem?.1 hm
              have hlt := (List.getElem?_eq_some_iff.1 hj).1
              obtain ⟨q, q1, q2⟩ := All2.get k4 (i := j) (x := xs[j]'(by omega)) (List.getElem?_eq_getElem _)
              rw [hj] at q1; injection q1 with q1; subst q1
              exact plainA_u32 q2 (List.all_eq_true.1 c3 _ (List.getElem_mem _))
          · obtain ⟨j, hj⟩ := List.mem_iff_getElem?.1 (List.mem_of_mem_drop hm)
            intro z e
            refine hr.u32 g j z (hr.own key g j (by unfold Owns; rw [hkey]; simp [k1, blk])) ?_
            simp [World.cell?, k6, hj, e]
        obtain ⟨r1, r2⟩ := set_box (w' := w.setRow g (vs.take off ++ us ++ vs.drop (off + s)).toArray) hr hkey k1 k6 (setRow_heap w g _ _ tb _ k6) (fun b hb => setRow_other w g b _ hb) rfl rfl rfl (by simp) k8 hpl
        unfold Oper.wp
        have : (execOp a.eval o).run P w = .ok .skip (w.setRow g (vs.take off ++ us ++ vs.drop (off + s)).toArray) := by
          simp [execOp, ho, Instr.storeAt, k2, Instr.sureAddr, storeVar, sizeT_run h2, k3, hul, hrun]
        rw [this]
        exact hn undef γ M _ r1 (.lit _) r2
      · cases hs
    · cases hs
  · cases hs
end
end Go.Proofs.YtikglhmabidjoaaGreatDoor.Lf
