/- Layer 38, lifted: copies of lists, paths that are extended. -/
import Derived.Test.YtikglhmabidjoaaGreatDoorLgE
import Derived.Maps.Views
namespace Go.Proofs.YtikglhmabidjoaaGreatDoor.Lf
open Go.RowKit Nt Go.Maps
set_option linter.unusedVariables false
set_option linter.unusedSimpArgs false
set_option maxRecDepth 100000
theorem clone_nil {P : Program} {F : FuncId} {k : Nat} {e : TypeId} (h1 : ∀ cap, LX P F [vl (.slice none 0 cap)] [] fun v H => v = vl (.slice none 0 0) ∧ H = []) (h2 : ∀ a cap, LX P F [vl (.slice (some a) 0 cap)] [] fun v H => v = .a (.own 0 k []) ∧ H = [(0, .arr e k 0)]) :
    LX P F [.a (.d (.sl k []))] [] fun v H => v = .a (.own 0 k []) ∧ H = [(0, .arr e k 0)] := by
  refine ⟨_, _, ⟨rfl, rfl⟩, fun γ M w rs hr ha => ?_⟩
  obtain ⟨v, rfl, hv⟩ := all2_1 ha
  have : ∃ ad cap, v = .slice ad 0 cap := by
    generalize hx : (V.a (A.d (D.sl k []))) = x at hv
    have hv' : RdD M w (.sl k []) v := by subst hx; exact hv
    cases hv'; exact ⟨_, _, rfl⟩
  obtain ⟨ad, cap, rfl⟩ := this
  cases ad with
  | none =>
    obtain ⟨v', H', ⟨rfl, rfl⟩, hc⟩ := h1 cap
    refine Calls.mono (hc γ M w _ hr ⟨.lit _, trivial⟩) ?_
    rintro e1 w' ⟨r, γ', M', rfl, k1, k2, k3⟩
    obtain ⟨q1, q2⟩ := new_nil k1 (key := 0) rfl e k
    have e2 : look [(0, Ent.arr e k 0)] = over [(0, .arr e k 0)] (look []) := look_app [(0, Ent.arr e k 0)] []
    have e3 := lit_inv k2
    subst e3
    refine ⟨_, _, M', rfl, by rw [e2]; exact q1, ⟨nil_ok k, rfl, fun e' k' n he => ?_⟩, by rw [e2]; exact k3.trans q2 hr.dom⟩
    simp only [look, if_true] at he
    injection he with he; injection he with _ _ he; subst he
    exact ⟨Nat.le_refl _, fun _ => by rw [upd_same]⟩
  | some a =>
    obtain ⟨v', H', ⟨rfl, rfl⟩, hc⟩ := h2 a cap
    exact hc γ M w _ hr ⟨.lit _, trivial⟩
theorem lx_cloneD {l : List Dc} (hl : l.length ≤ 1000000) : LX Tryz.prog 85 [.a (.d (.sl 5 (l.map Dc.D)))] [] fun v H => v = .a (.own 0 5 (l.map Dc.D)) ∧ H = [(0, .arr 46 5 (l.map Dc.D).length)] := by
  cases l with
  | cons x xs =>
    refine LX_run (m := 0) (n0 := 0) mix Tryz.func85 rfl rfl rfl rfl ?_
    conv => whnf
    refine .mk ((x :: xs).map Dc.D) rfl rfl (by simp at hl ⊢; omega) ?_
    conv => whnf
    exact ⟨_, _, ⟨rfl, rfl⟩, WkV.refl _, rfl, ⟨⟨_, rfl, wke_refl _, rfl⟩, trivial⟩, rfl⟩
  | nil =>
    refine clone_nil (k := 5) (e := 46) ?_ fun a cap => ?_
    · intro cap
      refine LX_run (m := 0) (n0 := 0) mix Tryz.func85 rfl rfl rfl rfl ?_
      conv => whnf
      exact ⟨_, _, ⟨rfl, rfl⟩, WkV.refl _, rfl, trivial, rfl⟩
    · refine LX_run (m := 0) (n0 := 0) mix Tryz.func85 rfl rfl rfl rfl ?_
      conv => whnf
      refine .mk [] rfl rfl (by decide) ?_
      conv => whnf
      exact ⟨_, _, ⟨rfl, rfl⟩, WkV.refl _, rfl, ⟨⟨_, rfl, wke_refl _, rfl⟩, trivial⟩, rfl⟩
theorem lx_cloneL {l : List Lm} (hl : l.length ≤ 1000000) : LX Tryz.prog 38 [.a (.d (.sl 6 (l.map Lm.D)))] [] fun v H => v = .a (.own 0 6 (l.map Lm.D)) ∧ H = [(0, .arr 71 6 (l.map Lm.D).length)] := by
  cases l with
  | cons x xs =>
    refine LX_run (m := 0) (n0 := 0) mix Tryz.func38 rfl rfl rfl rfl ?_
    conv => whnf
    refine .mk ((x :: xs).map Lm.D) rfl rfl (by simp at hl ⊢; omega) ?_
    conv => whnf
    exact ⟨_, _, ⟨rfl, rfl⟩, WkV.refl _, rfl, ⟨⟨_, rfl, wke_refl _, rfl⟩, trivial⟩, rfl⟩
  | nil =>
    refine clone_nil (k := 6) (e := 71) ?_ fun a cap => ?_
    · intro cap
      refine LX_run (m := 0) (n0 := 0) mix Tryz.func38 rfl rfl rfl rfl ?_
      conv => whnf
      exact ⟨_, _, ⟨rfl, rfl⟩, WkV.refl _, rfl, trivial, rfl⟩
    · refine LX_run (m := 0) (n0 := 0) mix Tryz.func38 rfl rfl rfl rfl ?_
      conv => whnf
      refine .mk [] rfl rfl (by decide) ?_
      conv => whnf
      exact ⟨_, _, ⟨rfl, rfl⟩, WkV.refl _, rfl, ⟨⟨_, rfl, wke_refl _, rfl⟩, trivial⟩, rfl⟩
def isU (d : Dc) : Bool := decide (d.k = 1 ∨ d.k = 2)
def valB (d : Dc) : Bool :=
  if d.k = 1 ∨ d.k = 2 then decide (d.i ≥ 0) && decide (d.i < 1024) && d.at_.z0
  else if d.k = 3 ∨ d.k = 4 then decide (d.i ≥ 0) && decide (d.i < 256) && d.at_.ok else false
theorem lx_unit {d : Dc} : LV Tryz.prog 142 [.agg d.A] (vl (.bool (isU d))) := by
  refine LX_run (m := 0) (n0 := 0) mix Tryz.func142 rfl rfl rfl rfl ?_
  conv => whnf
  repeat' first | (refine bs (fun h => ?_) (fun h => ?_) <;> conv => whnf) | (refine Nc.mk (by kernel_rfl) ?_; conv => whnf)
  all_goals exact .q ⟨by first | (simp_all [isU]; done) | (simp_all [isU]; intros; omega) | ((simp [isU]; repeat' split) <;> first | (simp_all; done) | (simp_all; intros; omega)), rfl⟩
theorem lx_pzero {x : Rw} : LV Tryz.prog 143 [.agg x.A] (vl (.bool x.z0)) := by
  obtain ⟨b, n, d⟩ := x
  cases b
  all_goals
    refine LX_run (m := 0) (n0 := 0) mix Tryz.func143 rfl rfl rfl rfl ?_
    conv => whnf
  all_goals (repeat' first | (refine bs (fun h => ?_) (fun h => ?_) <;> conv => whnf) | (refine Nc.mk (by kernel_rfl) ?_; conv => whnf))
  all_goals exact .q ⟨by first | (simp_all [Rw.z0]; done) | (simp_all [Rw.z0]; intros; omega) | ((simp [Rw.z0]; repeat' split) <;> first | (simp_all; done) | (simp_all; intros; omega)), rfl⟩
theorem lx_pvalid {d : Dc} (hd : d.at_.sm) : LV Tryz.prog 88 [.agg d.A] (vl (.bool (valB d))) := by
  refine LX_run (m := 0) (n0 := 0) mix Tryz.func88 rfl rfl rfl rfl ?_
  conv => whnf
  repeat' first | (refine bs (fun h => ?_) (fun h => ?_) <;> conv => whnf) | (refine Nc.mk (by kernel_rfl) ?_; conv => whnf) | (refine .c (lx_unit) ?_; conv => whnf) | (refine .c (lx_pzero) ?_; conv => whnf) | (refine .c (lx_ok hd) ?_; conv => whnf)
  all_goals exact .q ⟨by first | (simp_all [valB, isU]; done) | (simp_all [valB, isU]; intros; omega) | ((simp [valB, isU]; repeat' split) <;> first | (simp_all; done) | (simp_all; intros; omega)), rfl⟩
theorem lx_ext1 {d : Dc} (hd : d.at_.sm) : LV Tryz.prog 87 [.agg d.A] (vl (.bool (!valB d))) := by
  refine LX_run (m := 0) (n0 := 0) mix Tryz.func87 rfl rfl rfl rfl ?_
  conv => whnf
  repeat' first | (refine bs (fun h => ?_) (fun h => ?_) <;> conv => whnf) | (refine Nc.mk (by kernel_rfl) ?_; conv => whnf) | (refine .c (lx_pvalid hd) ?_; conv => whnf)
  all_goals exact .q ⟨by first | (simp_all []; done) | (simp_all []; intros; omega) | ((simp []; repeat' split) <;> first | (simp_all; done) | (simp_all; intros; omega)), rfl⟩
def seenB (l : List Dc) (x : Int) : Bool := l.any fun d => isU d && d.i == x
def twTo (l : List Dc) : Nat → Bool
  | 0 => false
  | i + 1 => twTo l i || (match l[i]? with
    | some d => isU d && seenB (l.take i) d.i
    | none => false)
def twB (l : List Dc) : Bool := twTo l l.length
theorem twTo_mono {l : List Dc} {i j : Nat} (h : twTo l i = true) (hij : i ≤ j) : twTo l j = true := by
  induction j with
  | zero => rw [show i = 0 by omega] at h; exact h
  | succ j ih =>
    rcases Nat.lt_or_ge j i with h1 | h1
    · rw [show j + 1 = i by omega]; exact h
    · simp [twTo, ih h1]
theorem twB_of {l : List Dc} {i : Nat} {d : Dc} (hd : l[i]? = some d) (h1 : isU d = true) (h2 : seenB (l.take i) d.i = true) : twB l = true :=
  twTo_mono (i := i + 1) (by simp [twTo, hd, h1, h2]) (at_lt hd)
theorem seen_succ {l : List Dc} {i : Nat} {d : Dc} (hd : l[i]? = some d) (x : Int) : seenB (l.take (i + 1)) x = (seenB (l.take i) x || (isU d && d.i == x)) := by
  rw [take_snoc hd, seenB, List.any_append]; simp [seenB]
abbrev mI : TypeId := 179
theorem u_map : Tryz.prog.underlying mI = some (.map 3 4) := by kernel_rfl
theorem u_int : Tryz.prog.underlying 3 = some (.int .i64) := by kernel_rfl
theorem u_bool : Tryz.prog.underlying 4 = some .bool := by kernel_rfl
theorem z_bool : (Tryz.prog.info? 4).bind (·.zero) = some (Lit.bool false).value := by kernel_rfl
theorem lk_map {x : Int} {n : Nat} {D : DataW Unit} {b : Bool} (hx : 0 ≤ x ∧ x ≤ 9223372036854775807) (hat : D.atKey (.int .i64 x) (.lit (.bool false)) = .lit (.bool b)) :
    LkOk Tryz.prog mI (MX Tryz.prog 3 4 n D) (.int .i64 x) 3 4 n D (.int .i64 x) (.bool false) (.bool b) :=
  ⟨u_map, int_keyed u_int, rfl, keyOf_int_mk u_int (WalkArith.wf_i64 (by omega)), z_bool, plainElem_bool u_bool false, hat, fun v ps h => plain_bool_inv h⟩
theorem mu_map {x : Int} {n : Nat} {D : DataW Unit} {b : Bool} (hx : 0 ≤ x ∧ x ≤ 9223372036854775807) (hn : n ≤ 1000000) :
    MuOk Tryz.prog mI (MX Tryz.prog 3 4 n D) (.int .i64 x) (.bool b) 3 4 n D (.int .i64 x) (.bool b) :=
  ⟨u_map, int_keyed u_int, rfl, keyOf_int_mk u_int (WalkArith.wf_i64 (by omega)), plainElem_bool u_bool b, by unfold maxLen; omega⟩
def Rd2 (D : DataW Unit) (f : Int → Bool) : Prop := IsMap D ∧ ∀ x, D.atKey (.int .i64 x) (.lit (.bool false)) = .lit (.bool (f x))
theorem Rd2.put {D : DataW Unit} {f g : Int → Bool} (h : Rd2 D f) (x : Int) (b : Bool) (hg : ∀ y, g y = if y = x then b else f y) : Rd2 (D.put (.int .i64 x) (.lit (.bool b))) g := by
  refine ⟨h.1.put _ _, fun y => ?_⟩
  rw [hg]
  split
  · rename_i e; subst e; exact atKey_put_same h.1 (show WideAt.IsKeyLit (.int .i64 y) from trivial) _ _
  · rename_i e; rw [atKey_put_other (by intro e2; injection e2 with _ e2; exact e e2)]; exact h.2 y
theorem lx_twice {l : List Dc} (hl : l.length ≤ 1000000) (hw : ∀ d ∈ l, 0 ≤ d.i ∧ d.i ≤ 9223372036854775807) : LV Tryz.prog 89 [.a (.d (dcsD l))] (vl (.bool (twB l))) := by
  refine LX_run (m := 0) (n0 := 0) mix Tryz.func89 rfl rfl rfl rfl ?_
  conv => whnf
  refine .mk 3 4 ?_
  conv => whnf
  refine .mk (Nat × DataW Unit) (fun (i, D) => ⟨[(9, vl (.int .i64 i)), (8, vl (.int .i64 (l.map Dc.D).length)), (7, .a (.d (dcsD l))), (3, .a (.mp 0))], [(0, .mp (MX Tryz.prog 3 4 i D))], 1⟩)
    (fun b => b.1 ≤ l.length ∧ twTo l b.1 = false ∧ Rd2 b.2 (seenB (l.take b.1))) (fun b => l.length - b.1) (0, .map []) Wk.go ⟨Nat.zero_le _, rfl, isMap_empty, fun x => rfl⟩ fun ⟨i, D⟩ hb => ?_
  obtain ⟨hi, ht, hD⟩ := hb
  simp only at hi ht hD
  conv => whnf
  refine bs (fun h1 => ?_) (fun h1 => ?_)
  · conv => whnf
    have h1' : i < l.length := by simpa using h1
    obtain ⟨d, hd⟩ := at_some h1'
    have hx := hw d (List.mem_of_getElem? hd)
    refine .mk (i) (d.D) (rfl) (at_map hd) ?_
    conv => whnf
    conv => whnf
    have put : ∀ b, (b = (seenB (l.take i) d.i || isU d)) → Rd2 (D.put (.int .i64 d.i) (.lit (.bool b))) (seenB (l.take (i + 1))) := fun b hb => hD.put _ _ fun y => by
      rw [seen_succ hd]
      split
      · rename_i e; subst e; rw [hb]; simp
      · rename_i e; simp [show (d.i == y) = false by simp; exact fun h => e h.symm]
    repeat' first | (refine bs (fun h => ?_) (fun h => ?_) <;> conv => whnf) | (refine Nc.mk (by kernel_rfl) ?_; conv => whnf) | (refine .c (lx_unit) ?_; conv => whnf) | (refine Lkx.mk _ _ _ _ _ _ _ (lk_map hx (hD.2 d.i)) ?_; conv => whnf) | (refine Mux.mk _ _ _ _ _ _ (mu_map hx (by omega)) ?_; conv => whnf)
    all_goals first
      | exact .q ⟨by rw [twB_of hd (by assumption) (by assumption)], rfl⟩
      | exact ⟨(i + 1, _), Wk.go, ⟨h1', by simp_all [twTo], put _ (by simp_all)⟩, by simp only; omega⟩
  · conv => whnf
    have e : i = l.length := by simp at h1; omega
    subst e
    exact .q ⟨by rw [twB, ht], rfl⟩
def extE (l : List Dc) (d : Dc) : Int := if (l ++ [d]).any (fun d => !valB d) then 1 else if twB (l ++ [d]) then 9 else if decide (((l ++ [d]).length : Int) > 2048) then 8 else 0
def extP (l : List Dc) (d : Dc) : List Dc := if extE l d = 0 then l ++ [d] else []
theorem val_ix {d : Dc} (h : valB d = true) : 0 ≤ d.i ∧ d.i ≤ 9223372036854775807 := by
  unfold valB at h
  split at h
  · simp at h; omega
  · split at h
    · simp at h; omega
    · cases h
theorem map_snoc {l : List Dc} {d : Dc} : (l ++ [d]).map Dc.D = l.map Dc.D ++ [d.D] := by simp
theorem lx_extend {l : List Dc} {d : Dc} (hl : l.length ≤ 900000) (hs : ∀ d ∈ l, d.at_.sm) (hd : d.at_.sm) :
    LV Tryz.prog 36 [.a (.d (dcsD l)), .agg d.A] (.tup [.s (.d (dcsD (extP l d))), .s (.d (.lit (.int .i64 (extE l d))))]) := by
  have hs' : ∀ x ∈ l ++ [d], x.at_.sm := fun x hx => by
    rcases List.mem_append.1 hx with h | h
    · exact hs x h
    · rw [List.mem_singleton.1 h]; exact hd
  have hln : ((l ++ [d]).map Dc.D).length = l.length + 1 := by simp
  have hlb : (l ++ [d]).length = l.length + 1 := by simp
  refine LX_run (m := 0) (n0 := 0) mix Tryz.func36 rfl rfl rfl rfl ?_
  conv => whnf
  refine .l [] (lx_cloneD (by omega)) ?_
  conv => whnf
  refine .mk ((l ++ [d]).map Dc.D) rfl map_snoc (by omega) ?_
  conv => whnf
  refine .mk (by kernel_rfl) ?_
  conv => whnf
  refine .c (lx_cfE (fs := l ++ [d]) (by simp; omega) rfl fun x hx => lx_ext1 (hs' x hx)) ?_
  conv => whnf
  refine bs (fun h1 => ?_) (fun h1 => ?_)
  · conv => whnf
    exact .mk _ [] ⟨rfl, rfl⟩ (WkV.tup ⟨by rw [extP, extE, if_pos h1]; exact WkA.nil, by rw [extE, if_pos h1]; exact WkA.refl _, trivial⟩) rfl trivial rfl
  · conv => whnf
    refine .c (lx_twice (l := l ++ [d]) (by simp; omega) fun x hx => val_ix (by have := List.any_eq_false.1 h1 x hx; simpa using this)) ?_
    conv => whnf
    have n1 : ¬ (l ++ [d]).any (fun d => !valB d) = true := by rw [h1]; exact Bool.false_ne_true
    refine bs (fun h2 => ?_) (fun h2 => ?_)
    · conv => whnf
      exact .mk _ [] ⟨rfl, rfl⟩ (WkV.tup ⟨by rw [extP, extE, if_neg n1, if_pos h2]; exact WkA.nil, by rw [extE, if_neg n1, if_pos h2]; exact WkA.refl _, trivial⟩) rfl trivial rfl
    · conv => whnf
      have n2 : ¬ twB (l ++ [d]) = true := by rw [h2]; exact Bool.false_ne_true
      refine bs (fun h3 => ?_) (fun h3 => ?_)
      · conv => whnf
        have h3' : decide (((l ++ [d]).length : Int) > 2048) = true := by rw [List.length_map] at h3; exact h3
        exact .mk _ [] ⟨rfl, rfl⟩ (WkV.tup ⟨by rw [extP, extE, if_neg n1, if_neg n2, if_pos h3']; exact WkA.nil, by rw [extE, if_neg n1, if_neg n2, if_pos h3']; exact WkA.refl _, trivial⟩) rfl trivial rfl
      · conv => whnf
        have h3' : ¬ decide (((l ++ [d]).length : Int) > 2048) = true := by rw [List.length_map] at h3; rw [h3]; exact Bool.false_ne_true
        exact .mk _ [] ⟨rfl, rfl⟩ (WkV.tup ⟨by rw [extP, extE, if_neg n1, if_neg n2, if_neg h3']; exact WkA.own, by rw [extE, if_neg n1, if_neg n2, if_neg h3']; exact WkA.refl _, trivial⟩) rfl trivial rfl
end Go.Proofs.YtikglhmabidjoaaGreatDoor.Lf
