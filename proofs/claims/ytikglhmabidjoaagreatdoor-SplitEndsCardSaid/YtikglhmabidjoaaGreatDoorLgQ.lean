/- Layer 38: what is chosen fits, and adds to the path. Plain. -/
import Derived.Test.YtikglhmabidjoaaGreatDoorLgP
namespace Go.Proofs.YtikglhmabidjoaaGreatDoor.Lf
open Go.RowKit Nt
set_option linter.unusedVariables false
set_option linter.unusedSimpArgs false
set_option maxRecDepth 100000
theorem twTo_app (l : List Dc) (d : Dc) : ∀ i, i ≤ l.length → twTo (l ++ [d]) i = twTo l i
  | 0, _ => rfl
  | i + 1, h => by
    simp only [twTo]
    rw [twTo_app l d i (by omega), List.getElem?_append_left (by omega), List.take_append_of_le_length (by omega)]
theorem twB_snoc (l : List Dc) (d : Dc) : twB (l ++ [d]) = (twB l || (isU d && seenB l d.i)) := by
  rw [twB, show (l ++ [d]).length = l.length + 1 by simp, twTo, twTo_app l d _ (Nat.le_refl _), List.getElem?_concat_length, List.take_append_of_le_length (Nat.le_refl _), List.take_length]
  rfl
theorem seen_snoc (l : List Dc) (d : Dc) (x : Int) : seenB (l ++ [d]) x = (seenB l x || (isU d && d.i == x)) := by
  rw [seenB, List.any_append]; simp [seenB]
theorem filter_add {p : Nat → Bool} {a : Nat} (hp : p a = false) : ∀ {l : List Nat}, l.Nodup → a ∈ l → (l.filter fun x => p x || x == a).length = (l.filter p).length + 1
  | [], _, h => by cases h
  | x :: l, hn, h => by
    obtain ⟨h1, h2⟩ := List.nodup_cons.1 hn
    rcases List.mem_cons.1 h with rfl | h
    · have e : (l.filter fun x => p x || x == a) = l.filter p := List.filter_congr fun y hy => by
        have : y ≠ a := fun e => h1 (e ▸ hy)
        simp [this]
      simp [List.filter_cons, hp, e]
    · have ih := filter_add hp h2 h
      have : x ≠ a := fun e => h1 (e ▸ h)
      simp only [List.filter_cons]
      cases hx : p x <;> simp [hx, this, ih]
theorem filter_lt {p : Nat → Bool} {a : Nat} (hp : p a = false) : ∀ {l : List Nat}, a ∈ l → (l.filter p).length < l.length
  | [], h => by cases h
  | x :: l, h => by
    have h0 := List.length_filter_le p l
    rcases List.mem_cons.1 h with rfl | h
    · rw [List.filter_cons, if_neg (by rw [hp]; exact Bool.false_ne_true), List.length_cons]; omega
    · have ih := filter_lt hp h
      simp only [List.filter_cons]
      split <;> simp only [List.length_cons] <;> omega
def cU (n : Nat) (P : List Dc) : Nat := ((List.range n).filter fun u : Nat => seenB P (u : Int)).length
theorem cU_le (n : Nat) (P : List Dc) : cU n P ≤ n := by
  have := List.length_filter_le (fun u : Nat => seenB P (u : Int)) (List.range n)
  simpa [cU] using this
theorem cU_lt {n u : Nat} {P : List Dc} (hu : u < n) (h : seenB P (u : Int) = false) : cU n P < n := by
  have := filter_lt (p := fun u : Nat => seenB P (u : Int)) (a := u) h (List.mem_range.2 hu)
  simpa [cU] using this
theorem cU_unit {n u : Nat} {P : List Dc} {d : Dc} (hu : u < n) (h : seenB P (u : Int) = false) (hd : isU d = true) (hi : d.i = u) : cU n (P ++ [d]) = cU n P + 1 := by
  rw [cU, cU, ← filter_add (p := fun u : Nat => seenB P (u : Int)) (a := u) h List.nodup_range (List.mem_range.2 hu)]
  congr 2
  funext x
  rw [seen_snoc, hd, hi]
  have : ((u : Int) == (x : Int)) = (x == u) := by
    rw [Bool.eq_iff_iff]; simp; omega
  simp [this]
theorem cU_in {n : Nat} {P : List Dc} {d : Dc} (hd : isU d = false) : cU n (P ++ [d]) = cU n P := by
  rw [cU, cU]; congr 2; funext x; rw [seen_snoc, hd]; simp
theorem cntI_snoc (P : List Dc) (d : Dc) : cntI (P ++ [d]) = cntI P + if isIn d = true then 1 else 0 := by
  simp only [cntI, List.filter_append, List.length_append]
  split <;> simp_all
theorem fit_k {q : Qu} {d : Dc} (h : fitB q d = true) : d.k = 1 ∨ d.k = 2 ∨ d.k = 3 ∨ d.k = 4 := by
  unfold fitB at h
  split at h
  · omega
  · split at h
    · omega
    · cases h
theorem fit_val {q : Qu} {d : Dc} (hq : QuOk q) (h : fitB q d = true) : valB d = true := by
  have := hq.g.u1; have := hq.g.n2
  unfold fitB at h
  unfold valB
  split
  · rename_i h1
    rw [if_pos h1] at h
    simp at h ⊢; exact ⟨⟨h.1.1, by omega⟩, h.2⟩
  · rename_i h1
    rw [if_neg h1] at h
    split
    · rename_i h2
      rw [if_pos h2] at h
      simp at h ⊢; exact ⟨⟨h.1.1, by omega⟩, h.2⟩
    · rename_i h2
      rw [if_neg h2] at h; cases h
theorem opK_u (d : Dc) : isU (opD d) = isU d := by
  simp only [isU, opD, opK]; congr 1; apply propext
  repeat' split
  all_goals omega
theorem opK_in (d : Dc) : isIn (opD d) = isIn d := by
  simp only [isIn, opD, opK]
  repeat' split
  all_goals simp_all
theorem opD_fit {q : Qu} {d : Dc} : fitB q (opD d) = fitB q d := by
  have e1 : ((opD d).k = 1 ∨ (opD d).k = 2) = (d.k = 1 ∨ d.k = 2) := by
    apply propext; simp only [opD, opK]; repeat' split
    all_goals omega
  have e2 : ((opD d).k = 3 ∨ (opD d).k = 4) = (d.k = 3 ∨ d.k = 4) := by
    apply propext; simp only [opD, opK]; repeat' split
    all_goals omega
  simp only [opD] at e1 e2 ⊢
  simp only [fitB, e1, e2]
theorem z0_zero : (⟨false, limbs 0, limbs 0⟩ : Rw).z0 = true := by simp [Rw.z0, limbs_zero]
theorem fit_on {q : Qu} {u : Nat} (hu : u < q.g.us.length) : fitB q (onD u) = true := by
  simp [fitB, onD, z0_zero, hu]
theorem fit_in {q : Qu} {j : Nat} {x : Rat} (hj : j < q.g.n) : fitB q ⟨3, j, can x⟩ = true := by
  simp only [fitB, can_ok]; simp [hj]
theorem isU_cases {q : Qu} {d : Dc} (h : fitB q d = true) : (isU d = true ∧ isIn d = false) ∨ (isU d = false ∧ isIn d = true) := by
  rcases fit_k h with h | h | h | h <;> simp [isU, isIn, h]
theorem ext_ok {q : Qu} {P : List Dc} {d : Dc} (hq : QuOk q) (hf : ∀ d ∈ P, fitB q d = true) (ht : twB P = false) (hl : P.length < 2048) (hd : fitB q d = true) (hs : isU d = true → seenB P d.i = false) : extE P d = 0 := by
  have h1 : ¬ (P ++ [d]).any (fun d => !valB d) = true := by
    rw [Bool.not_eq_true, List.any_eq_false]
    intro x hx
    rcases List.mem_append.1 hx with h | h
    · simp [fit_val hq (hf x h)]
    · rw [List.mem_singleton.1 h]; simp [fit_val hq hd]
  have h2 : ¬ twB (P ++ [d]) = true := by
    rw [twB_snoc, ht]
    cases hu : isU d with
    | true => rw [hs hu]; simp
    | false => simp
  have h3 : ¬ decide (((P ++ [d]).length : Int) > 2048) = true := by simp; omega
  rw [extE, if_neg h1, if_neg h2, if_neg h3]
theorem bx_all {Q : Rat → Prop} {s : Sp} (hlo : ∀ x ∈ s.q.r.lo, Q x) (hhi : ∀ x ∈ s.q.r.hi, Q x) (hp : ∀ d ∈ s.path, Q d.at_.q) : ∀ v ∈ bxS s, Q v.lo ∧ Q v.hi := by
  have h0 : ∀ v ∈ ivs0 s.q.r, Q v.lo ∧ Q v.hi := by
    intro v hv
    obtain ⟨i, hi⟩ := List.mem_iff_getElem?.1 hv
    rw [ivs0, List.getElem?_zipWith_eq_some] at hi
    obtain ⟨a, b, h1, h2, rfl⟩ := hi
    exact ⟨hlo a (List.mem_of_getElem? h1), hhi b (List.mem_of_getElem? h2)⟩
  have hx : ∀ {a b : Rat}, Q a → Q b → Q (rmax a b) := fun h h' => by unfold rmax; split <;> assumption
  have hm : ∀ {a b : Rat}, Q a → Q b → Q (rmin a b) := fun h h' => by unfold rmin; split <;> assumption
  have h1 : ∀ (l : List Iv) (d : Dc), (∀ v ∈ l, Q v.lo ∧ Q v.hi) → Q d.at_.q → ∀ v ∈ bxStep s.q l d, Q v.lo ∧ Q v.hi := by
    intro l d hl hd
    unfold bxStep
    split
    · split
      · rename_i v hv
        have hb := hl v (List.mem_of_getElem? hv)
        repeat' split
        · intro x hx'
          rcases List.mem_or_eq_of_mem_set hx' with h1 | rfl
          · exact hl x h1
          · exact ⟨hx hb.1 hd, hb.2⟩
        · intro x hx'
          rcases List.mem_or_eq_of_mem_set hx' with h1 | rfl
          · exact hl x h1
          · exact ⟨hb.1, hm hb.2 hd⟩
        · exact hl
      · exact hl
    · exact hl
  have h2 : ∀ (P : List Dc) (l : List Iv), (∀ d ∈ P, Q d.at_.q) → (∀ v ∈ l, Q v.lo ∧ Q v.hi) → ∀ v ∈ P.foldl (bxStep s.q) l, Q v.lo ∧ Q v.hi := by
    intro P
    induction P with
    | nil => intro l _ h; exact h
    | cons d P ih => intro l hd h; exact ih _ (fun d h => hd d (by simp [h])) (h1 l d h (hd d (by simp)))
  exact h2 _ _ hp h0
theorem gMost_mem {φ : Int → Rat} : ∀ {l : List Nat}, l ≠ [] → gMost φ l ∈ l
  | [], h => absurd rfl h
  | u :: l, _ => by
    have : ∀ (l : List Nat) (a : Nat × Rat), (l.foldl (gStep φ) a).1 = a.1 ∨ (l.foldl (gStep φ) a).1 ∈ l := by
      intro l
      induction l with
      | nil => intro a; exact .inl rfl
      | cons j l ih =>
        intro a
        rw [List.foldl_cons]
        rcases ih (gStep φ a j) with h | h
        · rw [h]
          unfold gStep
          split
          · exact .inr (by simp)
          · exact .inl rfl
        · exact .inr (by simp [h])
    rcases this l (u, φ u) with h | h
    · rw [gMost, h]; simp
    · rw [gMost]; simp [h]
theorem open_mem {s : Sp} {u : Nat} (h : u ∈ openS s) : u < s.q.g.us.length ∧ phaseS s u = 0 := by
  unfold openS openTo at h
  obtain ⟨h1, h2⟩ := List.mem_filter.1 h
  exact ⟨List.mem_range.1 h1, by simpa [openB] using h2⟩
theorem open_seen {s : Sp} {u : Nat} (hu : u < s.q.g.us.length) (h : phaseS s u = 0) (hf : ∀ d ∈ s.path, fitB s.q d = true) : seenB s.path u = false := by
  rw [phaseS, if_neg (by simp; omega)] at h
  have h1 : onS s u (bestS s u).1 = false := by
    cases h1 : onS s u (bestS s u).1 with
    | false => rfl
    | true => rw [h1] at h; cases h
  rw [h1, if_neg (by decide)] at h
  have h2 : offS s u (bestS s u).2 = false := by
    cases h2 : offS s u (bestS s u).2 with
    | false => rfl
    | true => rw [h2] at h; cases h
  rw [onS, Bool.or_eq_false_iff] at h1
  rw [offS, Bool.or_eq_false_iff] at h2
  have k1 := h1.1; have k2 := h2.1
  rw [decB, List.any_eq_false] at k1 k2
  rw [seenB, List.any_eq_false]
  intro d hd
  have f := hf d hd
  have q1 := k1 d hd
  have q2 := k2 d hd
  simp only [isD, f, Bool.and_true] at q1 q2
  simp only [isU, Bool.and_eq_true, decide_eq_true_eq, beq_iff_eq] at q1 q2 ⊢
  intro ⟨a, b⟩
  rcases a with a | a
  · exact q1 ⟨a, b⟩
  · exact q2 ⟨a, b⟩
theorem choose_cases {s : Sp} {r : Int} (hs : SpOk s) (h : csE s r = 0) :
    (∃ u, u ∈ openS s ∧ csD s (onD (gMost (gapS s) (openS s))) r = onD u) ∨
    (openS s ≠ [] ∧ r = 2 ∧ cntI s.path < 4 ∧ ∃ v ∈ bxS s, ∃ j : Nat, j < s.q.g.n ∧ csD s (onD (gMost (gapS s) (openS s))) r = ⟨3, j, can ((v.lo + v.hi) / ((2 : Int) : Rat))⟩) := by
  have hne : openS s ≠ [] := by
    intro e
    unfold csE at h
    rw [e] at h
    split at h <;> simp at h
  have hfm : (openS s).headD 0 ∈ openS s := by
    cases ho : openS s with
    | nil => exact absurd ho hne
    | cons u l => simp
  rw [csD, if_neg (by rw [h]; decide)]
  split
  · exact .inl ⟨_, hfm, rfl⟩
  · split
    · exact .inl ⟨_, gMost_mem hne, rfl⟩
    · split
      · rename_i h2
        rw [bisS]
        split
        · exact .inl ⟨_, hfm, rfl⟩
        · rename_i h3
          split
          · exact .inl ⟨_, hfm, rfl⟩
          · have hc : cntI s.path < 4 := by
              have := fun h => h3 (.inl h)
              simp at this; omega
            have hb : bxE s = 0 := by
              cases Classical.em (bxE s = 0) with
              | inl h => exact h
              | inr h => exact absurd (.inr h) h3
            have hl := bxR_len hs hb
            have hn := hs.q.g.n1
            have e : bxR s = bxS s := by
              unfold bxE at hb
              split at hb
              · cases hb
              · rename_i h'; rw [bxR, if_neg h']
            have hlt := wTo_lt (bxR s) (by omega) (bxR s).length (Nat.le_refl _)
            refine .inr ⟨hne, h2, hc, ivAt (bxR s) (wTo (bxR s) (bxR s).length), ?_, _, by omega, rfl⟩
            rw [← e]
            exact List.mem_of_getElem? (ivAt_some hlt)
      · exact .inl ⟨_, gMost_mem hne, rfl⟩
structure PathI (q : Qu) (P : List Dc) : Prop where
  fit : ∀ d ∈ P, fitB q d = true
  tw : twB P = false
  c4 : cntI P ≤ 4
  len : P.length = cU q.g.us.length P + cntI P
  bt : ∀ d ∈ P, Bt (16 ^ (cntI P + 1)) d.at_.q
  sm : ∀ d ∈ P, d.at_.sm
theorem p16 {c : Nat} (h : c ≤ 4) : 16 ^ (c + 1) ≤ 1048576 := Nat.le_trans (Nat.pow_le_pow_right (by decide) (show c + 1 ≤ 5 by omega)) (by decide)
theorem PathI.le {q : Qu} {P : List Dc} (h : PathI q P) : P.length ≤ q.g.us.length + 4 := by
  have := cU_le q.g.us.length P; have := h.c4; have := h.len; omega
theorem PathI.sp {q : Qu} {P : List Dc} (hq : QuB q) (h : PathI q P) : SpOk ⟨q, P, []⟩ := by
  have := h.le; have := hq.g.u1
  exact ⟨hq.ok, by simp only; omega, h.sm, Nat.zero_le _, fun m h => (by cases h), fun x hx => (hq.r.sl x hx).mono (by decide), fun x hx => (hq.r.sh x hx).mono (by decide), fun d hd => (h.bt d hd).mono (Nat.le_trans (p16 h.c4) (by decide)), fun m h => (by cases h)⟩
theorem PathI.nil (q : Qu) : PathI q [] := ⟨fun d h => (by cases h), rfl, Nat.zero_le _, by rw [cU, List.filter_eq_nil_iff.2 (by simp [seenB])]; rfl, fun d h => (by cases h), fun d h => (by cases h)⟩
theorem zero_q : (⟨false, limbs 0, limbs 0⟩ : Rw).q = 0 := by rw [← can0, can_q]
theorem PathI.snoc {q : Qu} {P : List Dc} {d : Dc} (h : PathI q P) (hd : fitB q d = true) (hsm : d.at_.sm) (hbt : Bt (16 ^ (cntI P + 1)) d.at_.q ∨ (isIn d = true ∧ Bt (16 ^ (cntI P + 2)) d.at_.q))
    (hu : isU d = true → ∃ u : Nat, u < q.g.us.length ∧ d.i = u ∧ seenB P u = false) (hi : isIn d = true → cntI P < 4) : PathI q (P ++ [d]) := by
  have h16 : 16 ^ (cntI P + 1) ≤ 16 ^ (cntI P + 2) := Nat.pow_le_pow_right (by decide) (by omega)
  rcases isU_cases hd with ⟨h1, h2⟩ | ⟨h1, h2⟩
  · obtain ⟨u, k1, k2, k3⟩ := hu h1
    have hc : cntI (P ++ [d]) = cntI P := by rw [cntI_snoc, if_neg (by rw [h2]; exact Bool.false_ne_true)]; rfl
    refine ⟨fun x hx => ?_, by rw [twB_snoc, h.tw, k2, k3]; simp, by rw [hc]; exact h.c4, ?_, fun x hx => ?_, fun x hx => ?_⟩
    · rcases List.mem_append.1 hx with h5 | h5
      · exact h.fit x h5
      · rw [List.mem_singleton.1 h5]; exact hd
    · rw [hc, cU_unit k1 k3 h1 k2, List.length_append, h.len]; simp; omega
    · rw [hc]
      rcases List.mem_append.1 hx with h5 | h5
      · exact h.bt x h5
      · rw [List.mem_singleton.1 h5]
        rcases hbt with h6 | h6
        · exact h6
        · rw [h6.1] at h2; cases h2
    · rcases List.mem_append.1 hx with h5 | h5
      · exact h.sm x h5
      · rw [List.mem_singleton.1 h5]; exact hsm
  · have hc : cntI (P ++ [d]) = cntI P + 1 := by rw [cntI_snoc, if_pos h2]
    refine ⟨fun x hx => ?_, by rw [twB_snoc, h.tw, h1]; simp, by rw [hc]; have := hi h2; omega, ?_, fun x hx => ?_, fun x hx => ?_⟩
    · rcases List.mem_append.1 hx with h5 | h5
      · exact h.fit x h5
      · rw [List.mem_singleton.1 h5]; exact hd
    · rw [hc, cU_in h1, List.length_append, h.len]; simp; omega
    · rw [hc]
      rcases List.mem_append.1 hx with h5 | h5
      · exact (h.bt x h5).mono h16
      · rw [List.mem_singleton.1 h5]
        rcases hbt with h6 | h6
        · exact h6.mono h16
        · exact h6.2
    · rcases List.mem_append.1 hx with h5 | h5
      · exact h.sm x h5
      · rw [List.mem_singleton.1 h5]; exact hsm
theorem on_sm (u : Int) : (onD u).at_.sm := by
  show (limbs 0).length ≤ _ ∧ (limbs 0).length ≤ _
  rw [limbs_zero]; exact ⟨Nat.zero_le _, Nat.zero_le _⟩
theorem half_b {k : Nat} {a b : Rat} (h : Bt k a) (h' : Bt k b) : Bt (k + k + 1 + 2) ((a + b) / ((2 : Int) : Rat)) :=
  (h.add h').div (Bt.int (k := 2) (by decide)) (by decide)
theorem PathI.step {q : Qu} {P : List Dc} {r : Int} (hq : QuB q) (h : PathI q P) (hr : csE ⟨q, P, []⟩ r = 0) :
    let d := csD ⟨q, P, []⟩ (onD (gMost (gapS ⟨q, P, []⟩) (openS ⟨q, P, []⟩))) r
    d.at_.sm ∧ P.length < q.g.us.length + 4 ∧ kidE ⟨q, P, []⟩ d = 0 ∧ kidA ⟨q, P, []⟩ d = ⟨q, P ++ [d], []⟩ ∧ kidB ⟨q, P, []⟩ d = ⟨q, P ++ [opD d], []⟩ ∧ PathI q (P ++ [d]) ∧ PathI q (P ++ [opD d]) := by
  have hs := h.sp hq
  have hu1 := hq.g.u1
  have hle := h.le
  intro d
  have key : fitB q d = true ∧ d.at_.sm ∧ (Bt (16 ^ (cntI P + 1)) d.at_.q ∨ (isIn d = true ∧ Bt (16 ^ (cntI P + 2)) d.at_.q)) ∧ (isU d = true → ∃ u : Nat, u < q.g.us.length ∧ d.i = u ∧ seenB P u = false) ∧ (isIn d = true → cntI P < 4) ∧ P.length < q.g.us.length + 4 := by
    rcases choose_cases hs hr with ⟨u, k1, k2⟩ | ⟨k0, _, k1, v, k2, j, k3, k4⟩
    · obtain ⟨k3, k4⟩ := open_mem k1
      have hse := open_seen k3 k4 h.fit
      have hlt := cU_lt k3 hse
      have hd : d = onD u := k2
      rw [hd]
      exact ⟨fit_on k3, on_sm _, .inl (by rw [onD, zero_q]; exact bt0 _), fun _ => ⟨u, k3, rfl, hse⟩, fun hh => by simp [isIn, onD] at hh, by have := h.len; have := h.c4; simp only at hlt; omega⟩
    · have hd : d = ⟨3, j, can ((v.lo + v.hi) / ((2 : Int) : Rat))⟩ := k4
      rw [hd]
      have hv := bx_all (Q := Bt (16 ^ (cntI P + 1))) (s := ⟨q, P, []⟩) (fun x hx => (hq.r.sl x hx).mono (Nat.le_trans (by decide : 11 ≤ 16 ^ 1) (Nat.pow_le_pow_right (by decide) (by omega)))) (fun x hx => (hq.r.sh x hx).mono (Nat.le_trans (by decide : 11 ≤ 16 ^ 1) (Nat.pow_le_pow_right (by decide) (by omega)))) h.bt v k2
      have hb := half_b hv.1 hv.2
      have h16 : 16 ^ (cntI P + 1) + 16 ^ (cntI P + 1) + 1 + 2 ≤ 16 ^ (cntI P + 2) := by
        have : 16 ^ (cntI P + 2) = 16 ^ (cntI P + 1) * 16 := Nat.pow_succ 16 (cntI P + 1)
        have : 1 ≤ 16 ^ (cntI P + 1) := Nat.pow_pos (by decide)
        omega
      have hb2 := hb.mono h16
      have hsz : Sz ((v.lo + v.hi) / ((2 : Int) : Rat)) := hb2.mono (by
        have := p16 (show cntI P ≤ 4 from h.c4)
        have : 16 ^ (cntI P + 2) = 16 ^ (cntI P + 1) * 16 := Nat.pow_succ 16 (cntI P + 1)
        omega)
      have hul : cU q.g.us.length P ≤ q.g.us.length := cU_le _ _
      exact ⟨fit_in k3, hsz.sm, .inr ⟨by simp [isIn], by simp only [can_q]; exact hb2⟩, fun hh => by simp [isU] at hh, fun _ => k1, by have := h.len; simp only at k1; omega⟩
  obtain ⟨q1, q2, q3, q4, q5, q6⟩ := key
  have e1 : extE P d = 0 := ext_ok hq.ok h.fit h.tw (by omega) q1 fun hu => let ⟨u, _, a, b⟩ := q4 hu; by rw [a]; exact b
  have e2 : extE P (opD d) = 0 := ext_ok hq.ok h.fit h.tw (by omega) (by rw [opD_fit]; exact q1) fun hu => let ⟨u, _, a, b⟩ := q4 (by rwa [opK_u] at hu); by show seenB P d.i = false; rw [a]; exact b
  have e3 : kidE ⟨q, P, []⟩ d = 0 := by rw [kidE, if_pos q1]; exact e1
  refine ⟨q2, q6, e3, ?_, ?_, h.snoc q1 q2 q3 q4 q5, h.snoc (by rw [opD_fit]; exact q1) q2 ?_ ?_ ?_⟩
  · rw [kidA, if_pos e3, extP, if_pos e1]
  · rw [kidB, if_pos e3, extP, if_pos e2]
  · rw [opK_in]; exact q3
  · rw [opK_u]; exact q4
  · rw [opK_in]; exact q5
end Go.Proofs.YtikglhmabidjoaaGreatDoor.Lf
