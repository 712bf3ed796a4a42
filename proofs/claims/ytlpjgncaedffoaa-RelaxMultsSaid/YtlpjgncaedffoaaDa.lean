/- Texts Relax Float2, in this order. -/
import Derived.Test.YtlpjgncaedffoaaCe
import Derived.Test.YtlpjgncaedffoaaBf
namespace Go.Proofs.Ytlpjgncaedffoaa
open Go.RowKit Nt
set_option linter.unusedVariables false

/-- The bounds have the two signs. -/
def unst (a b : Rat) : Bool := decide (a < 0) && decide (0 < b)
def slopeQ (a b : Rat) : Int := if unst a b && decide (0 < a + b) then 1 else 0
def gapQ (a b : Rat) : Rat := if unst a b then -(a * b) / (b - a) else 0
def upQ (a b : Rat) : Rat := b / (b - a)
theorem unst_t {a b : Rat} (h : unst a b = true) : a < 0 ∧ 0 < b := by simpa [unst] using h
theorem unst_d {a b : Rat} (h : unst a b = true) : 0 < b - a := by have := unst_t h; grind
theorem unst_ne {a b : Rat} (h : unst a b = true) : b - a ≠ 0 := Ne.symm (Rat.ne_of_lt (unst_d h))
theorem gap_t {a b : Rat} (h : unst a b = true) : gapQ a b = -(a * b) / (b - a) := by rw [gapQ, if_pos h]
theorem gap_f {a b : Rat} (h : unst a b = false) : gapQ a b = 0 := by rw [gapQ, if_neg (by simp [h])]

theorem div_mul' {x d : Rat} (h : d ≠ 0) : x / d * d = x := by rw [Rat.div_def, Rat.mul_assoc, Rat.inv_mul_cancel _ h, Rat.mul_one]
theorem up_mul {a b : Rat} (h : unst a b = true) : upQ a b * (b - a) = b := div_mul' (unst_ne h)
theorem gap_mul {a b : Rat} (h : unst a b = true) : gapQ a b * (b - a) = -(a * b) := by rw [gap_t h]; exact div_mul' (unst_ne h)
theorem nn_mul {x y : Rat} (h : 0 ≤ x) (h' : 0 ≤ y) : 0 ≤ x * y := Rat.mul_nonneg h h'
theorem of_mul_nn {x d : Rat} (hd : 0 < d) (h : 0 ≤ x * d) : 0 ≤ x := by
  rcases (show 0 ≤ x ∨ x < 0 by grind) with h1 | h1
  · exact h1
  · have := Rat.mul_pos (show 0 < -x by grind) hd; grind
theorem of_mul_pos {x d : Rat} (hd : 0 < d) (h : 0 < x * d) : 0 < x := by
  rcases (show 0 < x ∨ x ≤ 0 by grind) with h1 | h1
  · exact h1
  · have := nn_mul (show 0 ≤ -x by grind) (Rat.le_of_lt hd); grind
theorem of_mul_zero {x d : Rat} (hd : 0 < d) (h : x * d = 0) : x = 0 := by
  rcases Rat.mul_eq_zero.1 h with h1 | h1
  · exact h1
  · grind

/-- The rectifier. -/
def relu (p : Rat) : Rat := if p ≤ 0 then 0 else p
theorem relu_nn {p : Rat} (h : 0 ≤ p) : relu p = p := by unfold relu; split <;> grind
theorem relu_np {p : Rat} (h : p ≤ 0) : relu p = 0 := by unfold relu; rw [if_pos h]

/-- The upper line less the rectifier, times the length. -/
theorem far_nn {a b p : Rat} (h : unst a b = true) (hp : 0 ≤ p) : (upQ a b * p + gapQ a b - relu p) * (b - a) = a * (p - b) := by
  rw [relu_nn hp]
  have h1 := up_mul h
  have h2 := gap_mul h
  generalize upQ a b = u at *
  generalize gapQ a b = g at *
  have : (u * p + g - p) * (b - a) = (u * (b - a)) * p + g * (b - a) - p * (b - a) := by grind
  rw [this, h1, h2]; grind
theorem far_np {a b p : Rat} (h : unst a b = true) (hp : p ≤ 0) : (upQ a b * p + gapQ a b - relu p) * (b - a) = b * (p - a) := by
  rw [relu_np hp]
  have h1 := up_mul h
  have h2 := gap_mul h
  generalize upQ a b = u at *
  generalize gapQ a b = g at *
  have : (u * p + g - 0) * (b - a) = (u * (b - a)) * p + g * (b - a) := by grind
  rw [this, h1, h2]; grind

/-- RelaxGap: how the distance compares with the gap. -/
theorem gap_far {a b p : Rat} (h : unst a b = true) : cmpQ (upQ a b * p + gapQ a b - relu p) (gapQ a b) ≤ 0 ∧ (cmpQ (upQ a b * p + gapQ a b - relu p) (gapQ a b) = 0 ↔ p.num.sign = 0) := by
  have hd := unst_d h
  have hs := unst_t h
  have h2 := gap_mul h
  have hz : p.num.sign = 0 ↔ p = 0 := by rw [Int.sign_eq_zero_iff_zero, Rat.num_eq_zero]
  rw [cmpQ_le, cmpQ_zero, hz]
  rcases (show p < 0 ∨ p = 0 ∨ 0 < p by grind) with hp | hp | hp
  · have h1 := far_np h (Rat.le_of_lt hp)
    generalize upQ a b * p + gapQ a b - relu p = f at *
    generalize gapQ a b = g at *
    have e : (g - f) * (b - a) = b * (-p) := by grind
    have : 0 < g - f := of_mul_pos hd (by rw [e]; exact Rat.mul_pos hs.2 (by grind))
    grind
  · subst hp
    have e : upQ a b * 0 + gapQ a b - relu 0 = gapQ a b := by rw [relu_nn (Rat.le_refl)]; grind
    rw [e]
    exact ⟨Rat.le_refl, by simp⟩
  · have h1 := far_nn h (Rat.le_of_lt hp)
    generalize upQ a b * p + gapQ a b - relu p = f at *
    generalize gapQ a b = g at *
    have e : (g - f) * (b - a) = (-a) * p := by grind
    have : 0 < g - f := of_mul_pos hd (by rw [e]; exact Rat.mul_pos (by grind) hp)
    grind

/-- RelaxBounds: the rectifier lies below the upper line, and meets it only at the bounds. -/
theorem up_ge {a b p : Rat} (h : unst a b = true) (h1 : a ≤ p) (h2 : p ≤ b) : relu p ≤ upQ a b * p + gapQ a b ∧ (relu p = upQ a b * p + gapQ a b ↔ p = a ∨ p = b) := by
  have hd := unst_d h
  have hs := unst_t h
  rcases (show p ≤ 0 ∨ 0 ≤ p by grind) with hp | hp
  · have e := far_np h hp
    have nn : 0 ≤ upQ a b * p + gapQ a b - relu p := of_mul_nn hd (by rw [e]; exact nn_mul (Rat.le_of_lt hs.2) (by grind))
    refine ⟨by grind, ⟨fun k => .inl ?_, fun k => ?_⟩⟩
    · have z : b * (p - a) = 0 := by rw [← e, k]; grind
      rcases Rat.mul_eq_zero.1 z with z | z <;> grind
    · have pa : p = a := by grind
      have z : (upQ a b * p + gapQ a b - relu p) * (b - a) = 0 := by rw [e, pa]; grind
      have := of_mul_zero hd z
      grind
  · have e := far_nn h hp
    have nn : 0 ≤ upQ a b * p + gapQ a b - relu p := of_mul_nn hd (by rw [e]; have := nn_mul (show 0 ≤ -a by grind) (show 0 ≤ b - p by grind); grind)
    refine ⟨by grind, ⟨fun k => .inr ?_, fun k => ?_⟩⟩
    · have z : a * (p - b) = 0 := by rw [← e, k]; grind
      rcases Rat.mul_eq_zero.1 z with z | z <;> grind
    · have pb : p = b := by grind
      have z : (upQ a b * p + gapQ a b - relu p) * (b - a) = 0 := by rw [e, pb]; grind
      have := of_mul_zero hd z
      grind
theorem low_le {s p : Rat} (h0 : 0 ≤ s) (h1 : s ≤ 1) : s * p ≤ relu p := by
  rcases (show p ≤ 0 ∨ 0 ≤ p by grind) with hp | hp
  · rw [relu_np hp]; have := nn_mul h0 (show 0 ≤ -p by grind); grind
  · rw [relu_nn hp]; have := nn_mul (show 0 ≤ 1 - s by grind) hp; grind

/-- RelaxTriangle. -/
theorem tri_eq {a b p v : Rat} (h : unst a b = true) : 1 / (b - a) * (b * (p - a) - (b - a) * v) = upQ a b * p + gapQ a b - v := by
  have hd := unst_ne h
  have h1 := up_mul h
  have h2 := gap_mul h
  have h3 : 1 / (b - a) * (b - a) = 1 := div_mul' hd
  generalize upQ a b = u at *
  generalize gapQ a b = g at *
  generalize 1 / (b - a) = i at *
  have e : (i * (b * (p - a) - (b - a) * v) - (u * p + g - v)) * (b - a) = 0 := by
    have : (i * (b * (p - a) - (b - a) * v) - (u * p + g - v)) * (b - a) = (i * (b - a)) * (b * (p - a) - (b - a) * v) - ((u * (b - a)) * p + g * (b - a) - v * (b - a)) := by grind
    rw [this, h1, h2, h3]; grind
  rcases Rat.mul_eq_zero.1 e with e | e <;> grind

def btw (a b : Rat) (t n : Int) : Rat := a + ((t : Rat) / (n : Rat)) * (b - a)
theorem share {t n : Int} (hn : 0 < n) (h0 : 0 ≤ t) (h1 : t ≤ n) : 0 ≤ (t : Rat) / (n : Rat) ∧ (t : Rat) / (n : Rat) ≤ 1 := by
  have hn' : (0 : Rat) < (n : Rat) := by have := @Rat.intCast_lt_intCast 0 n; exact this.2 hn
  have h0' : (0 : Rat) ≤ (t : Rat) := by have := @Rat.intCast_le_intCast 0 t; exact this.2 h0
  have h1' : (t : Rat) ≤ (n : Rat) := Rat.intCast_le_intCast.2 h1
  have e := @div_mul' (t : Rat) (n : Rat) (Ne.symm (Rat.ne_of_lt hn'))
  generalize (t : Rat) / (n : Rat) = q at *
  refine ⟨of_mul_nn hn' (by rw [e]; exact h0'), ?_⟩
  have := of_mul_nn (x := 1 - q) hn' (by have : (1 - q) * (n : Rat) = n - q * n := by grind
                                         rw [this, e]; grind)
  grind
theorem btw_in {a b : Rat} {t n : Int} (h : a ≤ b) (hn : 0 < n) (h0 : 0 ≤ t) (h1 : t ≤ n) : a ≤ btw a b t n ∧ btw a b t n ≤ b := by
  obtain ⟨s0, s1⟩ := share hn h0 h1
  unfold btw
  generalize (t : Rat) / (n : Rat) = q at *
  have k0 := nn_mul s0 (show 0 ≤ b - a by grind)
  have k1 := nn_mul (show 0 ≤ 1 - q by grind) (show 0 ≤ b - a by grind)
  constructor
  · grind
  · grind
theorem share_lt {t n : Int} (hn : 0 < n) (h1 : t < n) : (t : Rat) / (n : Rat) < 1 := by
  have hn' : (0 : Rat) < (n : Rat) := by have := @Rat.intCast_lt_intCast 0 n; exact this.2 hn
  have h1' : (t : Rat) < (n : Rat) := Rat.intCast_lt_intCast.2 h1
  have e := @div_mul' (t : Rat) (n : Rat) (Ne.symm (Rat.ne_of_lt hn'))
  generalize (t : Rat) / (n : Rat) = q at *
  have := of_mul_pos (x := 1 - q) hn' (by have : (1 - q) * (n : Rat) = n - q * n := by grind
                                          rw [this, e]; grind)
  grind
theorem share_pos {t n : Int} (hn : 0 < n) (h1 : 0 < t) : 0 < (t : Rat) / (n : Rat) := by
  have hn' : (0 : Rat) < (n : Rat) := by have := @Rat.intCast_lt_intCast 0 n; exact this.2 hn
  have h1' : (0 : Rat) < (t : Rat) := by have := @Rat.intCast_lt_intCast 0 t; exact this.2 h1
  have e := @div_mul' (t : Rat) (n : Rat) (Ne.symm (Rat.ne_of_lt hn'))
  exact of_mul_pos hn' (by rw [e]; exact h1')
/-- The ends of the closer bounds. -/
theorem low_in {a : Rat} {f : Int} (h : a < 0) (h0 : 0 ≤ f) (h1 : f < 8) : a ≤ btw a 0 f 8 ∧ btw a 0 f 8 < 0 := by
  refine ⟨(btw_in (Rat.le_of_lt h) (by decide) h0 (by omega)).1, ?_⟩
  have k := share_lt (t := f) (n := 8) (by decide) h1
  unfold btw
  generalize (f : Rat) / ((8 : Int) : Rat) = q at *
  have := Rat.mul_pos (show 0 < 1 - q by grind) (show 0 < -a by grind)
  grind
theorem high_in {b : Rat} {g : Int} (h : 0 < b) (h0 : 0 ≤ g) (h1 : g < 8) : 0 < btw 0 b (1 + g) 8 ∧ btw 0 b (1 + g) 8 ≤ b := by
  refine ⟨?_, (btw_in (Rat.le_of_lt h) (by decide) (by omega) (by omega)).2⟩
  have k := share_pos (t := 1 + g) (n := 8) (by decide) (by omega)
  unfold btw
  generalize ((1 + g : Int) : Rat) / ((8 : Int) : Rat) = q at *
  have := Rat.mul_pos k h
  grind
theorem up_at {a b : Rat} (h : unst a b = true) (p : Rat) : (upQ a b * p + gapQ a b) * (b - a) = b * (p - a) := by
  have h1 := up_mul h
  have h2 := gap_mul h
  generalize upQ a b = u at *
  generalize gapQ a b = g at *
  have : (u * p + g) * (b - a) = (u * (b - a)) * p + g * (b - a) := by grind
  rw [this, h1, h2]; grind
theorem close_up {a b l u p : Rat} (h : unst a b = true) (h' : unst l u = true) (hl : a ≤ l) (hu : u ≤ b) (h1 : l ≤ p) (h2 : p ≤ u) : upQ l u * p + gapQ l u ≤ upQ a b * p + gapQ a b := by
  have e1 := up_at h p
  have e2 := up_at h' p
  have d1 := unst_d h
  have d2 := unst_d h'
  have s1 := unst_t h
  have s2 := unst_t h'
  generalize upQ l u * p + gapQ l u = C at *
  generalize upQ a b * p + gapQ a b = Wd at *
  have k1 : 0 ≤ (p - l) * ((u - l) * ((-a) * (b - u))) := nn_mul (by grind) (nn_mul (Rat.le_of_lt d2) (nn_mul (by grind) (by grind)))
  have k2 : 0 ≤ (u - p) * (b * (l - a) * (u - l)) := nn_mul (by grind) (nn_mul (nn_mul (Rat.le_of_lt s1.2) (by grind)) (Rat.le_of_lt d2))
  have e : (Wd - C) * ((b - a) * (u - l) * (u - l)) = (p - l) * ((u - l) * ((-a) * (b - u))) + (u - p) * (b * (l - a) * (u - l)) := by
    have : (Wd - C) * ((b - a) * (u - l) * (u - l)) = (Wd * (b - a)) * ((u - l) * (u - l)) - (C * (u - l)) * ((b - a) * (u - l)) := by grind
    rw [this, e1, e2]; grind
  have := of_mul_nn (x := Wd - C) (Rat.mul_pos (Rat.mul_pos d1 d2) d2) (by rw [e]; grind)
  grind
theorem close_gap {a b l u : Rat} (h : unst a b = true) (h' : unst l u = true) (hl : a ≤ l) (hu : u ≤ b) : gapQ l u ≤ gapQ a b := by
  have e1 := gap_mul h
  have e2 := gap_mul h'
  have d1 := unst_d h
  have d2 := unst_d h'
  have s1 := unst_t h
  have s2 := unst_t h'
  generalize gapQ l u = C at *
  generalize gapQ a b = Wd at *
  have k1 : 0 ≤ b * u * (l - a) := nn_mul (nn_mul (Rat.le_of_lt s1.2) (Rat.le_of_lt s2.2)) (by grind)
  have k2 : 0 ≤ (-a) * (-l) * (b - u) := nn_mul (nn_mul (by grind) (by grind)) (by grind)
  have e : (Wd - C) * ((b - a) * (u - l)) = b * u * (l - a) + (-a) * (-l) * (b - u) := by
    have : (Wd - C) * ((b - a) * (u - l)) = (Wd * (b - a)) * (u - l) - (C * (u - l)) * (b - a) := by grind
    rw [this, e1, e2]; grind
  have := of_mul_nn (x := Wd - C) (Rat.mul_pos d1 d2) (by rw [e]; grind)
  grind
end Go.Proofs.Ytlpjgncaedffoaa
namespace Go.Proofs.Ytlpjgncaedffoaa
open Go.RowKit Nt
set_option linter.unusedVariables false
section
variable {P : Program} {ops : Array Oper} {Q : Exit → Act → World → Prop} {md : Region.Mode}
variable {W : World} {E : List Nat} {F : List Fl} {L : Array Bool} {a : Act} {w : World} {n : Nat}

/-- An operation that enters a Go function is the one beside the allocations that may come up. -/
theorem good_run (i f : Nat) {oi : Oper} {args : Array Value} (hi : ops[i]? = some oi) (hns : ∀ cs b, oi.op ≠ .select cs b)
    (ok : Flok P ops md F a.tmps.size) (ha : aloof ops F oi = true) (hn : (F.all fun f => f.i != i) = true)
    (hr : (Region.ready md ops L).contains i = true) (hl : (L[i]? == some false) = true) (hone : Region.ready md ops (allOn F L) = [i])
    (hw : Region.wanted oi (yielded ops a.tmps) = true)
    (hrun : ∀ w' : World, (execOp a.eval oi).run P w' = .ok (.enter f args) w')
    (hc : ∀ w', Below w.heap.size w w' → Calls P f args w' (Ret w' fun w2 v => Good P md ops Q W E F (L.setIfInBounds i true) (a.put oi.dst v) w2)) : Good P md ops Q W E F L a w := by
  intro hW
  have hni : ∀ f ∈ F, f.i ≠ i := fun f hf => by simpa using List.all_eq_true.1 hn f hf
  have hl0 : L[i]? = some false := by simpa using hl
  have step : ∀ L' a' w', Below w.heap.size w w' → Rel F W.heap.size L a L' a' w' →
      wpOp P ops Q i (fun a1 w1 => SE W E w1 ∧ wpAnyH P md ops Q (SE W E) (left L' - 1) (L'.setIfInBounds i true) a1 w1) a' w' := by
    intro L' a' w' hbw hrel
    have hl' : L'[i]? = some false := by rw [hrel.listed i hni]; exact hl0
    have hex := hrel.exec ha hns
    unfold Go.wpOp
    simp only [hi]
    rw [if_pos ((hrel.wanted ha).trans hw)]
    refine .inl ?_
    have key : oi.upon P a' (fun a1 w1 => SE W E w1 ∧ wpAnyH P md ops Q (SE W E) (left L' - 1) (L'.setIfInBounds i true) a1 w1) Q (.ok (.enter f args) w') := by
      rw [Oper.upon_enter]
      refine (hc w' hbw).mono ?_
      rintro e w2 ⟨v, rfl, h1, h2⟩
      have hW2 : SE W E w2 := (hW.grow hbw).grow h2
      refine ⟨hW2, ?_⟩
      have := h1 hW2 (L'.setIfInBounds i true) (a'.put oi.dst v) w2 (Below.refl _ _) ((hrel.grow h2).put ha hni v)
      rwa [show left (L'.setIfInBounds i true) = left L' - 1 by have := left_set hl'; omega] at this
    unfold Oper.wp
    have e : (execOp a'.eval oi).run P w' = .ok (.enter f args) w' := by rw [hex]; exact hrun w'
    rw [e]
    exact key
  refine float_core ok ?_ ?_ hW
  · intro L' a' w' hbw hrel hall
    have hl' : L'[i]? = some false := by rw [hrel.listed i hni]; exact hl0
    have hin : i ∈ Region.ready md ops L' := hrel.ready (by simpa using hr) hni
    have s := step L' a' w' hbw hrel
    rw [show left L' = (left L' - 1) + 1 by have := left_pos hl'; omega]
    refine ⟨fun h0 => (by rw [h0] at hin; cases hin), fun j hj => ?_⟩
    have hnj : ∀ f ∈ F, f.i ≠ j := by
      rintro f hf rfl
      have := (mem_ready.1 hj).1
      rw [getD_of (hall f hf)] at this; cases this
    have hj' := hrel.readyOn hj hnj
    rw [hone] at hj'
    rw [List.mem_singleton.1 hj']
    exact s
  · intro L' a' w' hbw hrel j hj hnj _
    have hj' := hrel.readyOn hj hnj
    rw [hone] at hj'
    rw [List.mem_singleton.1 hj']
    exact step L' a' w' hbw hrel

theorem execOp_call_tmp {a : Act} {t : Tmp} {f : FuncId} (h : a.eval (.tmp t) = .func (.func f) #[] #[]) (dst : Option Tmp) (xs : Array Operand) (ats : Array TypeId) (ty : TypeId) (pos : String) (after : Array Edge) (guard : Option (Nat × Bool)) :
    execOp a.eval { dst, op := .call { callee := .value (.tmp t), args := xs, argTypes := ats }, type := ty, pos, after, guard } = callFunc f (#[] ++ xs.map a.eval ++ #[]) := by
  simp only [execOp, resolve, h]
  rfl
theorem good_callV (i f : Nat) (d : Option Tmp) (t : Tmp) (x : Array Operand) (tys : Array TypeId) (g : Option (Nat × Bool)) (args : Array Value)
    (hi : parts ops i = some (d, Op.call { callee := Callee.value (Operand.tmp t), args := x, argTypes := tys }, g)) (ok : Flok P ops md F n) (hsz : a.tmps.size = n)
    (hc : (aloof ops F (bare d (Op.call { callee := Callee.value (Operand.tmp t), args := x, argTypes := tys }) g) && (F.all fun f => f.i != i) && (Region.ready md ops L).contains i && (L[i]? == some false)) = true)
    (hone : Region.ready md ops (allOn F L) = [i]) (hw : Region.wanted (bare d (Op.call { callee := Callee.value (Operand.tmp t), args := x, argTypes := tys }) g) (yielded ops a.tmps) = true)
    (hv : a.eval (.tmp t) = .func (.func f) #[] #[])
    {fn : Func} {c : Code} (hf : P.funcs[f]? = some fn) (hname : (fn.name == "runtime.NumGoroutine") = false) (hb : fn.body = some c)
    (hargs : x.map a.eval = args)
    (hcall : ∀ w', Below w.heap.size w w' → Calls P f args w' (Ret w' fun w2 v => Good P md ops Q W E F (L.setIfInBounds i true) (a.put d v) w2)) : Good P md ops Q W E F L a w := by
  subst hsz
  obtain ⟨o, ho, rfl, h2, rfl⟩ := parts_some hi
  simp only [Bool.and_eq_true] at hc
  obtain ⟨⟨⟨c1, c2⟩, c3⟩, c4⟩ := hc
  rw [← h2] at c1 hw
  refine good_run i f ho (fun cs b => by rw [h2]; intro h; cases h) ok (by rw [← aloof_bare]; exact c1) c2 c3 c4 hone hw (fun w' => ?_) hcall
  obtain ⟨dst, op, ty, pos, after, guard⟩ := o
  dsimp only at h2
  subst h2
  rw [execOp_call_tmp hv, hargs]
  simpa using run_enter hf hname hb args w'
end
end Go.Proofs.Ytlpjgncaedffoaa
