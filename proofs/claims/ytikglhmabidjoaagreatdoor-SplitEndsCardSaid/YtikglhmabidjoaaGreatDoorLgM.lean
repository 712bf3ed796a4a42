/- Layer 38: forms, their sums and multiples. Plain. -/
import Derived.Test.YtikglhmabidjoaaGreatDoorLgL
namespace Go.Proofs.YtikglhmabidjoaaGreatDoor.Lf
open Go.RowKit Nt
set_option linter.unusedVariables false
set_option linter.unusedSimpArgs false
set_option maxRecDepth 100000
def cof : List Tm → Int → Rat
  | [], _ => 0
  | t :: ts, w => (if t.v = w then t.q else 0) + cof ts w
theorem cof_app (a b : List Tm) (w : Int) : cof (a ++ b) w = cof a w + cof b w := by
  induction a with
  | nil => simp [cof, Rat.zero_add]
  | cons t a ih => simp only [List.cons_append, cof, ih, Rat.add_assoc]
def nz1 (t : Tm) : List Tm := if t.q = 0 then [] else [t]
theorem cof_nz1 (t : Tm) (w : Int) : cof (nz1 t) w = if t.v = w then t.q else 0 := by
  unfold nz1
  split
  · rename_i h; simp [cof, h]
  · simp [cof, Rat.add_zero]
def ins (v : Int) (c : Rat) : List Tm → List Tm
  | [] => nz1 ⟨v, c⟩
  | t :: ts => if t.v = v then nz1 ⟨v, t.q + c⟩ ++ ts else if v < t.v then nz1 ⟨v, c⟩ ++ t :: ts else t :: ins v c ts
theorem cof_ins (v : Int) (c : Rat) (ts : List Tm) (w : Int) : cof (ins v c ts) w = cof ts w + if v = w then c else 0 := by
  induction ts with
  | nil => simp [ins, cof_nz1, cof, Rat.zero_add]
  | cons t ts ih =>
    simp only [ins]
    split
    · rename_i h
      rw [cof_app, cof_nz1, cof, h]
      split <;> grind
    · split
      · rw [cof_app, cof_nz1]; grind
      · simp only [cof, ih, Rat.add_assoc]
def TsOk (n : Int) : Int → List Tm → Prop
  | _, [] => True
  | lo, t :: ts => lo ≤ t.v ∧ t.v < n ∧ t.q ≠ 0 ∧ TsOk n (t.v + 1) ts
theorem TsOk.lo {n lo lo' : Int} {ts : List Tm} (h : TsOk n lo ts) (hl : lo' ≤ lo) : TsOk n lo' ts := by
  cases ts with
  | nil => trivial
  | cons t ts => exact ⟨by have := h.1; omega, h.2⟩
theorem TsOk.up {n n' : Int} {ts : List Tm} (hn : n ≤ n') : ∀ {lo : Int}, TsOk n lo ts → TsOk n' lo ts := by
  induction ts with
  | nil => intros; trivial
  | cons t ts ih => exact fun h => ⟨h.1, by have := h.2.1; omega, h.2.2.1, ih h.2.2.2⟩
theorem TsOk.nz {n lo v : Int} {q : Rat} {ts : List Tm} (h : TsOk n (v + 1) ts) (h1 : lo ≤ v) (h2 : v < n) : TsOk n lo (nz1 ⟨v, q⟩ ++ ts) := by
  unfold nz1
  split
  · exact h.lo (by omega)
  · exact ⟨h1, h2, by assumption, h⟩
theorem TsOk.ins {n v : Int} {c : Rat} (h2 : v < n) {ts : List Tm} : ∀ {lo : Int}, TsOk n lo ts → lo ≤ v → TsOk n lo (Lf.ins v c ts) := by
  induction ts with
  | nil =>
    intro lo h h1
    have := TsOk.nz (q := c) (lo := lo) (show TsOk n (v + 1) [] from trivial) h1 h2
    rwa [List.append_nil] at this
  | cons t ts ih =>
    intro lo h h1
    simp only [Lf.ins]
    split
    · rename_i e; exact TsOk.nz (e ▸ h.2.2.2) h1 h2
    · split
      · exact TsOk.nz ⟨by omega, h.2⟩ h1 h2
      · exact ⟨h.1, h.2.1, h.2.2.1, ih h.2.2.2 (by omega)⟩
theorem TsOk.cof_lt {n : Int} {ts : List Tm} : ∀ {lo w : Int}, TsOk n lo ts → w < lo → cof ts w = 0 := by
  induction ts with
  | nil => intros; rfl
  | cons t ts ih =>
    intro lo w h hw
    have := h.1
    rw [cof, if_neg (by omega), ih h.2.2.2 (by omega), Rat.add_zero]
theorem TsOk.cof_mem {n : Int} {ts : List Tm} : ∀ {lo : Int}, TsOk n lo ts → ∀ t ∈ ts, cof ts t.v = t.q ∧ lo ≤ t.v ∧ t.v < n ∧ t.q ≠ 0 := by
  induction ts with
  | nil => intro lo h t ht; cases ht
  | cons s ts ih =>
    intro lo h t ht
    have h1 := h.1
    rcases List.mem_cons.1 ht with rfl | ht
    · exact ⟨by rw [cof, if_pos rfl, h.2.2.2.cof_lt (by omega), Rat.add_zero], h.1, h.2.1, h.2.2.1⟩
    · obtain ⟨k1, k2, k3, k4⟩ := ih h.2.2.2 t ht
      exact ⟨by rw [cof, if_neg (by omega), k1, Rat.zero_add], by omega, k3, k4⟩
theorem TsOk.len {n : Int} {ts : List Tm} : ∀ {lo : Int}, TsOk n lo ts → lo ≤ n → (ts.length : Int) ≤ n - lo := by
  induction ts with
  | nil => intro lo h hn; simp; omega
  | cons t ts ih =>
    intro lo h hn
    have := ih h.2.2.2 (by have := h.2.1; omega)
    have := h.1; have := h.2.1
    simp only [List.length_cons]; omega
theorem TsOk.next {n : Int} {ts : List Tm} : ∀ {lo : Int}, TsOk n lo ts → ∀ (i : Nat) (t u : Tm), ts[i]? = some t → ts[i + 1]? = some u → t.v < u.v := by
  induction ts with
  | nil => intro lo h i t u h1; simp at h1
  | cons s ts ih =>
    intro lo h i t u h1 h2
    cases i with
    | zero =>
      simp at h1 h2
      subst h1
      cases ts with
      | nil => simp at h2
      | cons r ts => simp at h2; subst h2; have := h.2.2.2.1; omega
    | succ i => exact ih h.2.2.2 i t u (by simpa using h1) (by simpa using h2)
structure FB (k : Nat) (n : Int) (f : Af) : Prop where
  ts : TsOk n 0 f.ts
  co : ∀ w, Bt k (cof f.ts w)
  c : Bt k f.c
theorem FB.ok {k : Nat} {n : Int} {f : Af} (h : FB k n f) (hk : k ≤ 3000000000) (h0 : 0 ≤ n) (hn : n ≤ 1000000) : AfOk f n := by
  refine ⟨fun i t ht => ?_, h.ts.next, h.c.mono hk, ?_⟩
  · obtain ⟨k1, k2, k3, k4⟩ := h.ts.cof_mem t (List.mem_of_getElem? ht)
    exact ⟨k2, k3, k4, k1 ▸ (h.co t.v).mono hk⟩
  · have := h.ts.len h0; omega
theorem FB.tm {k : Nat} {n : Int} {f : Af} (h : FB k n f) : ∀ t ∈ f.ts, 0 ≤ t.v ∧ t.v < n ∧ t.q ≠ 0 ∧ Bt k t.q := fun t ht =>
  let ⟨k1, k2, k3, k4⟩ := h.ts.cof_mem t ht; ⟨k2, k3, k4, k1 ▸ h.co t.v⟩
theorem FB.up {k k' : Nat} {n n' : Int} {f : Af} (h : FB k n f) (hk : k ≤ k') (hn : n ≤ n') : FB k' n' f := ⟨h.ts.up hn, fun w => (h.co w).mono hk, h.c.mono hk⟩
def plusS (f : Af) (v : Int) (c : Rat) : Af := ⟨ins v c f.ts, f.c⟩
def addS (f g : Af) : Af := ⟨g.ts.foldl (fun a t => ins t.v t.q a) f.ts, f.c + g.c⟩
def scaleS (f : Af) (c : Rat) : Af := ⟨f.ts.flatMap fun t => nz1 ⟨t.v, t.q * c⟩, f.c * c⟩
def subS (f g : Af) : Af := addS f (scaleS g ((-1 : Int) : Rat))
def varS (v : Int) : Af := ⟨[⟨v, ((1 : Int) : Rat)⟩], 0⟩
def numS (c : Rat) : Af := ⟨[], c⟩
theorem cof_fold (b : List Tm) (w : Int) : ∀ a : List Tm, cof (b.foldl (fun a t => ins t.v t.q a) a) w = cof a w + cof b w := by
  induction b with
  | nil => intro a; simp [cof, Rat.add_zero]
  | cons t b ih => intro a; rw [List.foldl_cons, ih, cof_ins, cof, Rat.add_assoc]
theorem ok_fold {n : Int} {b : List Tm} (hb : ∀ t ∈ b, 0 ≤ t.v ∧ t.v < n) : ∀ {a : List Tm}, TsOk n 0 a → TsOk n 0 (b.foldl (fun a t => ins t.v t.q a) a) := by
  induction b with
  | nil => intro a h; exact h
  | cons t b ih => intro a h; exact ih (fun t ht => hb t (by simp [ht])) (h.ins (hb t (by simp)).2 (hb t (by simp)).1)
theorem FB.add {k l : Nat} {n : Int} {f g : Af} (h : FB k n f) (h' : FB l n g) : FB (k + l + 1) n (addS f g) :=
  ⟨ok_fold (fun t ht => let h := h'.tm t ht; ⟨h.1, h.2.1⟩) h.ts, fun w => by rw [addS, cof_fold]; exact (h.co w).add (h'.co w), h.c.add h'.c⟩
theorem cof_scale (c : Rat) (w : Int) : ∀ ts : List Tm, cof (ts.flatMap fun t => nz1 ⟨t.v, t.q * c⟩) w = cof ts w * c
  | [] => by simp [cof]
  | t :: ts => by
    rw [List.flatMap_cons, cof_app, cof_nz1, cof_scale c w ts, cof, Rat.add_mul]
    congr 1
    split <;> simp
theorem ok_scale {n : Int} (c : Rat) : ∀ {ts : List Tm} {lo : Int}, TsOk n lo ts → TsOk n lo (ts.flatMap fun t => nz1 ⟨t.v, t.q * c⟩)
  | [], _, _ => trivial
  | t :: ts, lo, h => by
    rw [List.flatMap_cons]
    exact TsOk.nz (ok_scale c h.2.2.2) h.1 h.2.1
theorem FB.scale {k l : Nat} {n : Int} {f : Af} {c : Rat} (h : FB k n f) (hc : Bt l c) : FB (k + l) n (scaleS f c) :=
  ⟨ok_scale c h.ts, fun w => by rw [scaleS, cof_scale]; exact (h.co w).mul hc, h.c.mul hc⟩
theorem FB.num {k : Nat} {n : Int} {c : Rat} (h : Bt k c) : FB k n (numS c) := ⟨trivial, fun w => bt0 _, h⟩
theorem FB.var {n v : Int} (h : 0 ≤ v) (h2 : v < n) : FB 0 n (varS v) := by
  have h1 : Bt 0 ((1 : Int) : Rat) := Bt.int (by decide)
  refine ⟨⟨h, h2, by show ((1 : Int) : Rat) ≠ 0; decide, trivial⟩, fun w => ?_, bt0 _⟩
  rw [varS, cof, cof, Rat.add_zero]
  split
  · exact h1
  · exact bt0 _
theorem FB.sub {k l : Nat} {n : Int} {f g : Af} (h : FB k n f) (h' : FB l n g) : FB (k + l + 1) n (subS f g) :=
  h.add (h'.scale (l := 0) (Bt.int (by decide)))
def plStep (v : Int) (c : Rat) (a : List Tm × Bool) (t : Tm) : List Tm × Bool :=
  if t.v = v then (a.1 ++ nz1 ⟨t.v, t.q + c⟩, true)
  else if a.2 = false ∧ v < t.v then (a.1 ++ nz1 ⟨v, c⟩ ++ nz1 t, true) else (a.1 ++ nz1 t, a.2)
def plTo (v : Int) (c : Rat) (ts : List Tm) (i : Nat) : List Tm × Bool := (ts.take i).foldl (plStep v c) ([], false)
def plEnd (v : Int) (c : Rat) (a : List Tm × Bool) : List Tm := if a.2 = false then a.1 ++ nz1 ⟨v, c⟩ else a.1
theorem plTo_succ {v : Int} {c : Rat} {ts : List Tm} {i : Nat} {t : Tm} (h : ts[i]? = some t) : plTo v c ts (i + 1) = plStep v c (plTo v c ts i) t := by
  unfold plTo
  rw [take_snoc h, List.foldl_append]; rfl
theorem nz1_ne {t : Tm} (h : t.q ≠ 0) : nz1 t = [t] := if_neg h
theorem pl_done {n v : Int} {c : Rat} : ∀ {ts : List Tm} {lo : Int} (o : List Tm), TsOk n lo ts → v < lo → ts.foldl (plStep v c) (o, true) = (o ++ ts, true)
  | [], _, o, _, _ => by simp
  | t :: ts, lo, o, h, hv => by
    have h1 := h.1
    rw [List.foldl_cons, plStep, if_neg (by omega), if_neg (by simp), nz1_ne h.2.2.1, pl_done _ h.2.2.2 (by omega)]
    simp
theorem pl_all {n v : Int} {c : Rat} : ∀ {ts : List Tm} {lo : Int} (o : List Tm), TsOk n lo ts → plEnd v c (ts.foldl (plStep v c) (o, false)) = o ++ ins v c ts
  | [], _, o, _ => by simp [plEnd, ins]
  | t :: ts, lo, o, h => by
    rw [List.foldl_cons, plStep, ins]
    split
    · rename_i e
      rw [pl_done _ h.2.2.2 (by omega), plEnd, e]
      simp
    · split
      · rename_i e h1
        rw [pl_done _ h.2.2.2 (by omega), plEnd, if_pos h1.2, nz1_ne h.2.2.1]
        simp
      · rename_i e h1
        rw [pl_all _ h.2.2.2, if_neg (fun h2 => h1 ⟨rfl, h2⟩), nz1_ne h.2.2.1]
        simp
theorem pl_eq {n v : Int} {c : Rat} {ts : List Tm} (h : TsOk n 0 ts) : plEnd v c (plTo v c ts ts.length) = ins v c ts := by
  rw [plTo, List.take_length]
  exact pl_all [] h
end Go.Proofs.YtikglhmabidjoaaGreatDoor.Lf
