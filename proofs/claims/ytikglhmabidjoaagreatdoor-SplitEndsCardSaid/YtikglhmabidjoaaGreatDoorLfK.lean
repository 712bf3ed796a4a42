/- Lifted values: contracts in short. No program in sight. -/
import Derived.Test.YtikglhmabidjoaaGreatDoorLfJ
namespace Go.Proofs.YtikglhmabidjoaaGreatDoor.Lf
open Go.RowKit Nt
set_option linter.unusedVariables false
set_option linter.unusedSimpArgs false
def LV (P : Program) (f : FuncId) (args : List V) (v : V) : Prop := LX P f args [] fun v' H => v' = v ∧ H = []
def LP (P : Program) (f : FuncId) (args : List V) (R : V → Prop) : Prop := ∃ v, R v ∧ (keysV v).isEmpty = true ∧ LV P f args v
section
variable {γ γ' : Gh} {h h' : Hp} {M M' : MS} {w w' : World} {P : Program} {N m : Nat}
def stripW : W → W
  | .s x => .s (stripA x)
  | .g xs => .g (xs.map stripA)
def stripV : V → V
  | .a x => .a (stripA x)
  | .agg xs => .agg (xs.map stripA)
  | .tup ws => .tup (ws.map stripW)
theorem stripV_ok (v : V) : WkV v (stripV v) := by
  cases v with
  | a x => exact fun _ _ _ _ _ k => RdA.strip k
  | agg xs => exact fun _ _ _ _ _ ⟨vs, h1, h2⟩ => ⟨vs, h1, All2.map (All2.imp (fun _ _ k => RdA.strip k) h2)⟩
  | tup ws =>
    refine fun γ h M w r k => ?_
    obtain ⟨vs, h1, h2⟩ := k
    refine ⟨vs, h1, All2.map (All2.imp (fun x v k => ?_) h2)⟩
    cases x with
    | s x => exact RdA.strip k
    | g xs => obtain ⟨us, h3, h4⟩ := k; exact ⟨us, h3, All2.map (All2.imp (fun _ _ k => RdA.strip k) h4)⟩
theorem strips_ok : ∀ vs : List V, All2 WkV vs (vs.map stripV)
  | [] => trivial
  | v :: vs => ⟨stripV_ok v, strips_ok vs⟩
theorem wks_refl : ∀ vs : List V, All2 WkV vs vs
  | [] => trivial
  | v :: vs => ⟨WkV.refl v, wks_refl vs⟩
theorem Cn.val {F : FuncId} {vs : List V} {H : List (Nat × Ent)} {n : Nat} {K : V → List (Nat × Ent) → List Nat → Nat → Prop} {v : V} (hc : LV P F (vs.map stripV) v) (he : entT P F = true) (hg : ((vs.map stripV).flatMap keysV).isEmpty = true) (hv : (keysV v).isEmpty = true)
    (hk : fX v fun v => K v [] [] n) : Cn P F vs H n K :=
  .pure _ _ he hc (strips_ok vs) hg fun v' H' hR => ⟨hR.2, by rw [hR.1]; exact List.isEmpty_iff.1 hv, by rw [hR.1]; exact hk⟩
theorem Cn.dat {F : FuncId} {vs : List V} {H : List (Nat × Ent)} {n : Nat} {K : V → List (Nat × Ent) → List Nat → Nat → Prop} {R : V → Prop} (hc : LP P F (vs.map stripV) R) (he : entT P F = true) (hg : ((vs.map stripV).flatMap keysV).isEmpty = true)
    (hk : ∀ v, R v → fX v fun v => K v [] [] n) : Cn P F vs H n K := let ⟨v, h1, h2, h3⟩ := hc; .val h3 he hg h2 (hk v h1)
def okL (ks : List Nat) (n : Nat) (gs : List V) (H1 : List (Nat × Ent)) : Bool :=
  decide ks.Nodup && ks.all (fun k => Nat.blt k n) && (gs.flatMap keysV).all (fun k => ks.contains k) && H1.all (fun p => noKeys p.2 && Nat.blt p.1 ks.length)
theorem Cn.lent {F : FuncId} {vs : List V} {H Hs H1 : List (Nat × Ent)} {n : Nat} {K : V → List (Nat × Ent) → List Nat → Nat → Prop} {v : V} (ks : List Nat) (hc : LX P F ((vs.map stripV).map (renV fun k => ks.idxOf k)) Hs fun v' H' => v' = v ∧ H' = H1) (he : entT P F = true)
    (hl : lendFrom (look H) 0 ks = some Hs) (hok : okL ks n (vs.map stripV) H1 = true)
    (hk : fX (renV (back ks n) v) fun v => fHs (H1.map fun p => (back ks n p.1, p.2)) fun sets => K v sets (ks ++ H1.map fun p => back ks n p.1) (n + H1.length)) : Cn P F vs H n K := by
  unfold okL at hok
  simp only [Bool.and_eq_true, decide_eq_true_eq, List.all_eq_true, Nat.blt_eq, List.contains_eq_mem] at hok
  obtain ⟨⟨⟨o1, o2⟩, o3⟩, o4⟩ := hok
  refine .lend ks _ Hs _ he hc (strips_ok vs) o1 o2 hl o3 fun v' H1' hR => ?_
  obtain ⟨rfl, rfl⟩ := hR
  exact ⟨List.all_eq_true.2 fun p hp => (o4 p hp).1, fun p hp hle => absurd (o4 p hp).2 (by omega), hk⟩
theorem LP.of {F : FuncId} {args : List V} {v : V} {R : V → Prop} (h : LV P F args v) (hR : R v) (hk : (keysV v).isEmpty = true) : LP P F args R := ⟨v, hR, hk, h⟩
theorem LP.mono {F : FuncId} {args : List V} {R R' : V → Prop} (h : LP P F args R) (k : ∀ v, R v → R' v) : LP P F args R' := let ⟨v, h1, h2, h3⟩ := h; ⟨v, k v h1, h2, h3⟩
theorem LV.wk {F : FuncId} {args gs : List V} {v : V} (h : LV P F gs v) (hw : All2 WkV args gs) : LV P F args v := by
  obtain ⟨v', H', ⟨rfl, rfl⟩, hc⟩ := h
  exact ⟨_, _, ⟨rfl, rfl⟩, fun γ M w rs hr ha => hc γ M w rs hr (wk_all hw ha)⟩
theorem LP.wk {F : FuncId} {args gs : List V} {R : V → Prop} (h : LP P F gs R) (hw : All2 WkV args gs) : LP P F args R := let ⟨v, h1, h2, h3⟩ := h; ⟨v, h1, h2, h3.wk hw⟩
theorem LV.out {F : FuncId} {args : List V} {v v' : V} (h : LV P F args v) (hw : WkV v v') : LV P F args v' := by
  obtain ⟨_, _, ⟨rfl, rfl⟩, hc⟩ := h
  refine ⟨_, _, ⟨rfl, rfl⟩, fun γ M w rs hr ha => Calls.mono (hc γ M w rs hr ha) ?_⟩
  rintro e w' ⟨r, γ', M', h1, h2, h3, h4⟩
  exact ⟨r, γ', M', h1, h2, hw _ _ _ _ _ h3, h4⟩
theorem WkV.int {k : IntKind} {x y : Int} (h : x = y) : WkV (vl (.int k x)) (vl (.int k y)) := by subst h; exact WkV.refl _
theorem wka_refl : ∀ xs : List A, All2 WkA xs xs
  | [] => trivial
  | x :: xs => ⟨WkA.refl x, wka_refl xs⟩
theorem wkd_refl : ∀ xs : List D, All2 WkD xs xs
  | [] => trivial
  | x :: xs => ⟨WkD.refl x, wkd_refl xs⟩
theorem wkds_refl : ∀ xs : List (List D), All2 (All2 WkD) xs xs
  | [] => trivial
  | x :: xs => ⟨wkd_refl x, wkds_refl xs⟩
theorem wke_refl (e : Ent) : WkE e e := by
  cases e with
  | gone => trivial
  | box t cs => exact ⟨cs, rfl, wka_refl cs⟩
  | arr t k n => rfl
  | tab t k rows => exact ⟨rows, rfl, wkds_refl rows⟩
  | mp φ => exact ⟨φ, rfl, fun _ h => h⟩
theorem wr64 {x : Int} (h1 : -9223372036854775808 ≤ x) (h2 : x < 9223372036854775808) : IntKind.i64.wrap x = x := Go.IntWalk.i64_in x ⟨h1, by omega⟩
theorem Wk.same {m : Nat} {s s' : St} (h : s = s') : Wk m s s' := by subst h; exact Wk.refl m s
def OD (w : World) : D → Value → Prop
  | .lit v, r => r = v
  | .lm xs, r => Sl w r xs
  | .sl _ _, _ => False
def OA (w : World) : A → Value → Prop
  | .d d, r => OD w d r
  | _, _ => False
def OW (w : World) : W → Value → Prop
  | .s x, r => OA w x r
  | .g xs, r => ∃ vs : List Value, r = .agg vs.toArray ∧ All2 (OA w) xs vs
def OV (w : World) : V → Value → Prop
  | .a x, r => OA w x r
  | .agg xs, r => ∃ vs : List Value, r = .agg vs.toArray ∧ All2 (OA w) xs vs
  | .tup ws, r => ∃ vs : List Value, r = .tuple vs.toArray ∧ All2 (OW w) ws vs
theorem sl_rd (hu : ∀ b i n, M b i → w.cell? ⟨b, i, none⟩ ≠ some (.int .u32 n)) {xs : List Nat} {r : Value} (h : Sl w r xs) : RdD M w (.lm xs) r := by
  refine .lm xs r h fun b o l c hv i hi hm => ?_
  obtain ⟨ad, n, cap, rfl, h1, h2, h3, h4, h5⟩ := h
  injection hv with e1 e2 e3
  subst e2 e3
  obtain ⟨b', off, e, hb, hc⟩ := h5 (by omega)
  rw [e] at e1
  injection e1 with e1
  injection e1 with e4 e5
  subst e4 e5
  exact hu _ _ _ hm (hc i hi)
theorem OD.rd (hu : ∀ b i n, M b i → w.cell? ⟨b, i, none⟩ ≠ some (.int .u32 n)) {d : D} {r : Value} (k : OD w d r) : RdD M w d r := by
  cases d with
  | lit v => rw [show r = v from k]; exact .lit v
  | lm xs => exact sl_rd hu k
  | sl _ _ => exact k.elim
theorem OA.rd (hu : ∀ b i n, M b i → w.cell? ⟨b, i, none⟩ ≠ some (.int .u32 n)) {x : A} {r : Value} (k : OA w x r) : RdA γ h M w x r := by
  cases x <;> first | exact OD.rd hu k | exact k.elim
theorem OV.rd (hu : ∀ b i n, M b i → w.cell? ⟨b, i, none⟩ ≠ some (.int .u32 n)) {x : V} {r : Value} (k : OV w x r) : RdV γ h M w x r := by
  cases x with
  | a x => exact OA.rd hu k
  | agg xs => obtain ⟨vs, h1, h2⟩ := k; exact ⟨vs, h1, All2.imp (fun _ _ => OA.rd hu) h2⟩
  | tup ws =>
    obtain ⟨vs, h1, h2⟩ := k
    refine ⟨vs, h1, All2.imp (fun x r k => ?_) h2⟩
    cases x with
    | s x => exact OA.rd hu k
    | g xs => obtain ⟨vs, h1, h2⟩ := k; exact ⟨vs, h1, All2.imp (fun _ _ => OA.rd hu) h2⟩
theorem rd_sl {xs : List Nat} {r : Value} (h : RdD M w (.lm xs) r) : Sl w r xs := by cases h; assumption
theorem rel_below {H : Hp} (r : Rel γ H M w) (hb : Below w.heap.size w w') (he : ∀ k, H k = none) : Rel γ H M w' ∧ Stp γ H M w γ H M w' := by
  have hc : ∀ b i, b < w.heap.size → w'.cell? ⟨b, i, none⟩ = w.cell? ⟨b, i, none⟩ := fun b i hlt => by simp only [World.cell?]; rw [hb.block b hlt]
  refine ⟨⟨fun key e hk => absurd hk (by rw [he]; simp), r.own, r.inj, fun b i n hm => by rw [hc b i (r.dom b i hm)]; exact r.u32 b i n hm, fun b i hm => Nat.lt_of_lt_of_le (r.dom b i hm) hb.size, r.glb.fx fun b i v hf => ⟨hf.1, by rw [hc b i (World.block_lt_of_cell? _ _ hf.2)]; exact hf.2⟩⟩,
    hb.os, hb.tape, hb.output, hb.size, fun b i v hf => ⟨hf.1, by rw [hc b i (World.block_lt_of_cell? _ _ hf.2)]; exact hf.2⟩, fun b hlt _ => hb.block b hlt, fun b i hm _ => hm, fun key b i ho _ => ⟨key, ho⟩, fun key e hk => absurd hk (by rw [he]; simp)⟩
theorem lv_of {F : FuncId} {args : List V} {v : V} (hc : ∀ (γ : Gh) (M : MS) (w : World) (rs : List Value), All2 (RdV γ (look []) M w) args rs → Calls P F rs.toArray w (Ret w fun w' r => OV w' v r)) : LV P F args v := by
  refine ⟨_, _, ⟨rfl, rfl⟩, fun γ M w rs hr ha => Calls.mono (hc γ M w rs ha) ?_⟩
  rintro e w' ⟨r, rfl, h1, h2⟩
  obtain ⟨k1, k2⟩ := rel_below hr h2 fun k => rfl
  exact ⟨r, γ, M, rfl, k1, OV.rd k1.u32 h1, k2⟩
end
end Go.Proofs.YtikglhmabidjoaaGreatDoor.Lf
