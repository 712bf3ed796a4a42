/- Layer 38, lifted: what the data are. -/
import Derived.Test.YtikglhmabidjoaaGreatDoorLfR
import Derived.KernelRfl
namespace Go.Proofs.YtikglhmabidjoaaGreatDoor.Lf
open Go.RowKit Nt
set_option linter.unusedVariables false
set_option linter.unusedSimpArgs false
set_option maxRecDepth 100000
theorem Wk.go {m : Nat} {s s' : St} (h1 : subT s.T s'.H s'.T := by (repeat' first | exact trivial | exact WkV.refl _ | exact WkV.int (wr64 (by omega) (by omega)) | exact WkV.int (by simp) | refine ⟨⟨_, rfl, ?_, rfl⟩, ?_⟩))
    (h2 : subH s.H s'.H s'.H := by (repeat' first | exact trivial | exact wke_refl _ | refine ⟨⟨_, rfl, ?_, rfl⟩, ?_⟩)) (h3 : subM m s.H s'.H = true := by rfl) : Wk m s s' := Wk.of h1 h2 h3
def okF (ks : List Nat) (n : Nat) (gs : List V) (H H1 : List (Nat × Ent)) : Bool :=
  decide ks.Nodup && ks.all (fun k => Nat.blt k n) && (gs.flatMap keysV).all (fun k => ks.contains k) && H1.all (fun p => noKeys p.2 && (Nat.blt p.1 ks.length || (look H (back ks n p.1)).isNone))
section
variable {P : Program} {F : FuncId} {vs gs : List V} {H : List (Nat × Ent)} {n : Nat} {K : V → List (Nat × Ent) → List Nat → Nat → Prop} {v : V} {R : V → Prop}
theorem Cn.c (hc : LV P F (vs.map stripV) v) (hk : fX v fun v => K v [] [] n) (he : entT P F = true := by rfl) (hg : ((vs.map stripV).flatMap keysV).isEmpty = true := by rfl) (hv : (keysV v).isEmpty = true := by rfl) : Cn P F vs H n K := .val hc he hg hv hk
theorem Cn.d (hc : LP P F (vs.map stripV) R) (hk : ∀ v, R v → fX v fun v => K v [] [] n) (he : entT P F = true := by rfl) (hg : ((vs.map stripV).flatMap keysV).isEmpty = true := by rfl) : Cn P F vs H n K := .dat hc he hg hk
theorem Cn.l {Hs H1 : List (Nat × Ent)} (ks : List Nat) (hc : LX P F ((vs.map stripV).map (renV fun k => ks.idxOf k)) Hs fun v' H' => v' = v ∧ H' = H1)
    (hk : fX (renV (back ks n) v) fun v => fHs (H1.map fun p => (back ks n p.1, p.2)) fun sets => K v sets (ks ++ H1.map fun p => back ks n p.1) (n + H1.length)) (he : entT P F = true := by rfl)
    (hl : lendFrom (look H) 0 ks = some Hs := by rfl) (hok : okF ks n (vs.map stripV) H H1 = true := by rfl) : Cn P F vs H n K := by
  unfold okF at hok
  simp only [Bool.and_eq_true, Bool.or_eq_true, decide_eq_true_eq, List.all_eq_true, Nat.blt_eq, List.contains_eq_mem] at hok
  obtain ⟨⟨⟨o1, o2⟩, o3⟩, o4⟩ := hok
  refine .lend ks _ Hs _ he hc (strips_ok vs) o1 o2 hl o3 fun v' H1' hR => ?_
  obtain ⟨rfl, rfl⟩ := hR
  exact ⟨List.all_eq_true.2 fun p hp => (o4 p hp).1, fun p hp hle => (o4 p hp).2.elim (fun h => absurd h (by omega)) fun h => by simpa using h, hk⟩
theorem Rt.q {m : Nat} {R : V → List (Nat × Ent) → Prop} (hR : R v []) (hi : (keysV v).isEmpty = true := by rfl) (hm : m = 0 := by rfl) : Rt m H v R := by
  subst hm
  exact ⟨v, [], hR, WkV.refl v, by simp [inH, List.isEmpty_iff.1 hi], trivial, rfl⟩
theorem Rt.s {m : Nat} {R : V → List (Nat × Ent) → Prop} (hR : R (stripV v) []) (hi : (keysV (stripV v)).isEmpty = true := by rfl) (hm : m = 0 := by rfl) : Rt m H v R := by
  subst hm
  exact ⟨_, [], hR, stripV_ok v, by simp [inH, List.isEmpty_iff.1 hi], trivial, rfl⟩
end
structure Rw where
  b : Bool
  n : List Nat
  d : List Nat
def Rw.q (x : Rw) : Rat := rv x.b (val x.n) (val x.d)
abbrev Rw.D (x : Rw) : List D := [.lit (.bool x.b), .lm x.n, .lm x.d]
abbrev Rw.A (x : Rw) : List A := [.d (.lit (.bool x.b)), .d (.lm x.n), .d (.lm x.d)]
abbrev can (q : Rat) : Rw := ⟨decide (q < 0), limbs q.num.natAbs, limbs (dn q)⟩
abbrev Rw.sm (x : Rw) : Prop := x.n.length ≤ 100000000 ∧ x.d.length ≤ 100000000
def Sz (q : Rat) : Prop := Bt 3000000000 q
theorem RQ.c {q : Rat} (h : Sz q) : RQ (ratV q) q := RQ.can h (Nat.le_refl _)
theorem Rw.sm.rq {x : Rw} (h : x.sm) : RQ (.agg x.A) x.q := RQ.raw rfl h.1 h.2
theorem can_q (q : Rat) : (can q).q = q := by unfold Rw.q; rw [val_limbs, val_limbs]; exact rv_self q
theorem Sz.sm {q : Rat} (h : Sz q) : (can q).sm := ⟨(Bt.sm h (Nat.le_refl _)).1, (Bt.sm h (Nat.le_refl _)).dn⟩
theorem Bt.mono {k l : Nat} {q : Rat} (h : Bt k q) (hl : k ≤ l) : Bt l q := ⟨Nat.le_trans h.1 (Nat.pow_le_pow_right (by decide) hl), Nat.le_trans h.2 (Nat.pow_le_pow_right (by decide) hl)⟩
theorem Bt.sz {k : Nat} {q : Rat} (h : Bt k q) (hk : k ≤ 3000000000) : Sz q := h.mono hk
theorem bt0 (k : Nat) : Bt k 0 := ⟨Nat.zero_le _, Nat.one_le_two_pow⟩
def Rw.ok (x : Rw) : Bool := vB x.b x.n x.d x.q
theorem can_ok (q : Rat) : (can q).ok = true := by unfold Rw.ok; rw [can_q]; exact vB_can q
theorem lx_ok {x : Rw} (h : x.sm) : LV Tryz.prog 119 [.agg x.A] (vl (.bool x.ok)) := lx_rvalid h.1 h.2
theorem lx_okc {q : Rat} (h : Sz q) : LV Tryz.prog 119 [ratV q] (vl (.bool true)) := by
  have := lx_ok h.sm; rwa [can_ok] at this
structure Tm where
  v : Int
  q : Rat
structure Af where
  ts : List Tm
  c : Rat
structure Gr where
  n : Nat
  us : List Af
  os : List Af
structure Rg where
  lo : List Rat
  hi : List Rat
  rs : List Af
structure Qu where
  g : Gr
  r : Rg
  goal : Af
structure Dc where
  k : Int
  i : Int
  at_ : Rw
structure Lm where
  u : Int
  up : Bool
  v : Rw
  pf : List (List D)
structure Sp where
  q : Qu
  path : List Dc
  ls : List Lm
abbrev Tm.D (t : Tm) : List D := .lit (.int .i64 t.v) :: (can t.q).D
abbrev Tm.A (t : Tm) : List A := .d (.lit (.int .i64 t.v)) :: (can t.q).A
abbrev Af.D (f : Af) : List D := .sl 4 (f.ts.map Tm.D) :: (can f.c).D
abbrev Af.A (f : Af) : List A := .d (.sl 4 (f.ts.map Tm.D)) :: (can f.c).A
abbrev afsD (l : List Af) : D := .sl 4 (l.map Af.D)
abbrev rqsD (l : List Rat) : D := .sl 3 (l.map fun q => (can q).D)
abbrev Gr.A (g : Gr) : List A := [.d (.lit (.int .i64 g.n)), .d (afsD g.us), .d (afsD g.os)]
abbrev Rg.A (r : Rg) : List A := [.d (rqsD r.lo), .d (rqsD r.hi), .d (afsD r.rs)]
abbrev Qu.A (q : Qu) : List A := [.d (.lit (.int .i64 q.g.n)), .d (afsD q.g.us), .d (afsD q.g.os), .d (rqsD q.r.lo), .d (rqsD q.r.hi), .d (afsD q.r.rs), .d (.sl 4 (q.goal.ts.map Tm.D)), .d (.lit (.bool (decide (q.goal.c < 0)))), .d (.lm (limbs q.goal.c.num.natAbs)), .d (.lm (limbs (dn q.goal.c)))]
abbrev Dc.D (d : Dc) : List D := [.lit (.int .i64 d.k), .lit (.int .i64 d.i), .lit (.bool d.at_.b), .lm d.at_.n, .lm d.at_.d]
abbrev Dc.A (d : Dc) : List A := [.d (.lit (.int .i64 d.k)), .d (.lit (.int .i64 d.i)), .d (.lit (.bool d.at_.b)), .d (.lm d.at_.n), .d (.lm d.at_.d)]
abbrev Lm.D (m : Lm) : List D := [.lit (.int .i64 m.u), .lit (.bool m.up), .lit (.bool m.v.b), .lm m.v.n, .lm m.v.d, .sl 7 m.pf]
abbrev Lm.A (m : Lm) : List A := [.d (.lit (.int .i64 m.u)), .d (.lit (.bool m.up)), .d (.lit (.bool m.v.b)), .d (.lm m.v.n), .d (.lm m.v.d), .d (.sl 7 m.pf)]
abbrev dcsD (l : List Dc) : D := .sl 5 (l.map Dc.D)
abbrev lmsD (l : List Lm) : D := .sl 6 (l.map Lm.D)
abbrev Sp.A (s : Sp) : List A := s.q.A ++ [.d (dcsD s.path), .d (lmsD s.ls)]
structure AfOk (f : Af) (n : Int) : Prop where
  lo : ∀ (i : Nat) (t : Tm), f.ts[i]? = some t → 0 ≤ t.v ∧ t.v < n ∧ t.q ≠ 0 ∧ Sz t.q
  up : ∀ (i : Nat) (t u : Tm), f.ts[i]? = some t → f.ts[i + 1]? = some u → t.v < u.v
  c : Sz f.c
  len : f.ts.length ≤ 1000000
structure GrOk (g : Gr) : Prop where
  n1 : 1 ≤ g.n
  n2 : g.n ≤ 256
  u1 : g.us.length ≤ 1024
  o1 : 1 ≤ g.os.length
  o2 : g.os.length ≤ 256
  us : ∀ (j : Nat) (f : Af), g.us[j]? = some f → AfOk f (g.n + j : Nat)
  os : ∀ f ∈ g.os, AfOk f (g.n + g.us.length : Nat)
structure RgOk (r : Rg) (n : Nat) : Prop where
  n1 : 1 ≤ n
  n2 : n ≤ 256
  lo : r.lo.length = n
  hi : r.hi.length = n
  rl : r.rs.length ≤ 256
  le : ∀ (i : Nat) (a b : Rat), r.lo[i]? = some a → r.hi[i]? = some b → a ≤ b
  sl : ∀ q ∈ r.lo, Sz q
  sh : ∀ q ∈ r.hi, Sz q
  rs : ∀ f ∈ r.rs, AfOk f n
structure QuOk (q : Qu) : Prop where
  g : GrOk q.g
  r : RgOk q.r q.g.n
  goal : AfOk q.goal (q.g.n + q.g.us.length : Nat)
theorem at_some {α : Type} {l : List α} {i : Nat} (h : i < l.length) : ∃ x, l[i]? = some x := ⟨_, List.getElem?_eq_getElem h⟩
theorem at_lt {α : Type} {l : List α} {i : Nat} {x : α} (h : l[i]? = some x) : i < l.length := (List.getElem?_eq_some_iff.1 h).1
theorem at_map {α β : Type} {l : List α} {f : α → β} {i : Nat} {x : α} (h : l[i]? = some x) : (l.map f)[i]? = some (f x) := by rw [List.getElem?_map, h]; rfl
theorem sgn_ne {q : Rat} (h : q ≠ 0) : (q.num.sign == 0) = false := by simpa [Int.sign_eq_zero_iff_zero] using h
theorem take_snoc {α : Type} {l : List α} {i : Nat} {x : α} (h : l[i]? = some x) : l.take (i + 1) = l.take i ++ [x] := by
  obtain ⟨h1, h2⟩ := List.getElem?_eq_some_iff.1 h
  rw [List.take_succ_eq_append_getElem h1, h2]
theorem cmp_le {a b : Rat} (h : a ≤ b) : decide (cmpQ a b > 0) = false := by
  have := cmpQ_le.2 h
  exact decide_eq_false (by omega)
end Go.Proofs.YtikglhmabidjoaaGreatDoor.Lf
