/- Layer 38, lifted: sums and multiples of forms: the reference. -/
import Derived.Test.YtikglhmabidjoaaGreatDoorLgM
namespace Go.Proofs.YtikglhmabidjoaaGreatDoor.Lf
open Go.RowKit Nt
set_option linter.unusedVariables false
set_option linter.unusedSimpArgs false
set_option maxRecDepth 100000
theorem Cn.o {P : Program} {F : FuncId} {vs : List V} {H : List (Nat × Ent)} {n : Nat} {K : V → List (Nat × Ent) → List Nat → Nat → Prop} {v : V} {Hs H1 : List (Nat × Ent)} (ks : List Nat) (hc : LX P F (vs.map (renV fun k => ks.idxOf k)) Hs fun v' H' => v' = v ∧ H' = H1)
    (hk : fX (renV (back ks n) v) fun v => fHs (H1.map fun p => (back ks n p.1, p.2)) fun sets => K v sets (ks ++ H1.map fun p => back ks n p.1) (n + H1.length)) (he : entT P F = true := by rfl)
    (hl : lendFrom (look H) 0 ks = some Hs := by rfl) (hok : okF ks n vs H H1 = true := by rfl) : Cn P F vs H n K := by
  unfold okF at hok
  simp only [Bool.and_eq_true, Bool.or_eq_true, decide_eq_true_eq, List.all_eq_true, Nat.blt_eq, List.contains_eq_mem] at hok
  obtain ⟨⟨⟨o1, o2⟩, o3⟩, o4⟩ := hok
  refine .lend ks _ Hs _ he hc (wks_refl vs) o1 o2 hl o3 fun v' H1' hR => ?_
  obtain ⟨rfl, rfl⟩ := hR
  exact ⟨List.all_eq_true.2 fun p hp => (o4 p hp).1, fun p hp hle => (o4 p hp).2.elim (fun h => absurd h (by omega)) fun h => by simpa using h, hk⟩
theorem All2.set {α β : Type} {R : α → β → Prop} : ∀ {xs : List α} {ys : List β} {j : Nat} {x y : α}, All2 R xs ys → xs[j]? = some x → (∀ v, R x v → R y v) → All2 R (xs.set j y) ys
  | [], [], _, _, _, _, h, _ => by simp at h
  | a :: xs, b :: ys, 0, x, y, k, h, f => by simp at h; subst h; exact ⟨f b k.1, k.2⟩
  | a :: xs, b :: ys, j + 1, x, y, k, h, f => ⟨k.1, All2.set k.2 (by simpa using h) f⟩
  | [], _ :: _, _, _, _, k, _, _ => k.elim
  | _ :: _, [], _, _, _, k, _, _ => k.elim
theorem relabel {γ : Gh} {h : Hp} {M : MS} {w : World} {b key j k : Nat} {t e : TypeId} {cs : List A} (r : Rel γ h M w) (hb : h b = some (.box t cs)) (hj : cs[j]? = some (.d (.lit (.slice none 0 0)))) (hk : h key = some (.arr e k 0)) (hg : γ key = .slice none 0 0) :
    Rel γ (over [(b, .box t (cs.set j (.own key k [])))] h) M w ∧ Stp γ h M w γ (over [(b, .box t (cs.set j (.own key k [])))] h) M w := by
  have hne : key ≠ b := by intro e1; subst e1; rw [hb] at hk; cases hk
  have ho : ∀ key' b' i, Owns γ (over [(b, .box t (cs.set j (.own key k [])))] h) key' b' i ↔ Owns γ h key' b' i := fun key' b' i => by
    by_cases e1 : key' = b
    · subst e1; simp only [Owns, over_same, hb]
    · exact owns_congr rfl (over_other e1)
  have hl : ∀ key', live (over [(b, .box t (cs.set j (.own key k [])))] h key') = live (h key') := fun key' => by
    by_cases e1 : key' = b
    · subst e1; rw [over_same, hb]; rfl
    · rw [over_other e1]
  have s : Stp γ h M w γ (over [(b, .box t (cs.set j (.own key k [])))] h) M w := by
    refine ⟨rfl, rfl, rfl, Nat.le_refl _, fun _ _ _ k => k, fun _ _ _ => rfl, fun _ _ k _ => k, fun key' b' i h1 _ => ⟨key', (ho _ _ _).1 h1⟩, fun key' e' he => ?_⟩
    by_cases e1 : key' = b
    · subst e1; rw [hb] at he; injection he with he; subst he
      exact ⟨_, over_same, trivial, .inl rfl⟩
    · exact ⟨e', by rw [over_other e1]; exact he, Goes.refl _, .inl rfl⟩
  refine ⟨⟨fun key' e' he => ?_, fun key' b' i h1 => r.own key' b' i ((ho _ _ _).1 h1), fun k1 k2 b' l1 l2 b1 b2 => r.inj k1 k2 b' (by rw [← hl]; exact l1) (by rw [← hl]; exact l2) b1 b2, r.u32, r.dom, r.glb⟩, s⟩
  by_cases e1 : key' = b
  · subst e1
    rw [over_same] at he; injection he with he; subst he
    obtain ⟨g, vs, k1, k2, k3⟩ := r.ent _ _ hb
    refine ⟨g, vs, k1, k2, All2.set (All2.imp (fun x v k => RdA.stp s k) k3) hj fun v hv => ?_⟩
    rw [show v = .slice none 0 0 from lit_inv hv]
    refine ⟨nil_ok k, by rw [over_other hne, hk]; rfl, fun e' k' n he => ?_⟩
    rw [over_other hne, hk] at he; injection he with he; injection he with _ _ he; subst he
    exact ⟨Nat.le_refl _, fun _ => hg.symm⟩
  · rw [over_other e1] at he
    exact EntR.stp s (r.ent key' e' he) rfl fun _ _ _ => rfl
theorem Wk.ownB {m : Nat} {s : St} (b key j : Nat) (e : TypeId) (k : Nat) {t : TypeId} {cs : List A} (hb : look s.H b = some (.box t cs)) (hj : cs[j]? = some (.d (.lit (.slice none 0 0)))) (hk : look s.H key = none) :
    Wk m s ⟨s.T, (b, .box t (cs.set j (.own key k []))) :: (key, .arr e k 0) :: s.H, s.n⟩ := by
  intro N γ0 h0 M0 w0 a w hm hd hS
  obtain ⟨γ, M, k1, k2, k3, k4, k5⟩ := hS
  have hne : b ≠ key := by intro e1; subst e1; rw [hb] at hk; cases hk
  obtain ⟨q1, q2⟩ := new_nil k1 hk e k
  obtain ⟨q3, q4⟩ := relabel (b := b) (j := j) (k := k) (cs := cs) q1 (by rw [over_other hne]; exact hb) hj over_same upd_same
  have q5 := Stp.trans q2 q4 k1.dom
  have e1 : look ((b, Ent.box t (cs.set j (.own key k []))) :: (key, Ent.arr e k 0) :: s.H) = over [(b, .box t (cs.set j (.own key k [])))] (over [(key, .arr e k 0)] (look s.H)) := by
    rw [← look_app [(key, Ent.arr e k 0)] s.H]; exact look_app [(b, _)] ((key, Ent.arr e k 0) :: s.H)
  refine ⟨_, M, by rw [e1]; exact q3, ⟨k2.1, fun d' v' hv' => ?_⟩, k3, k4, by rw [e1]; exact k5.trans q5 hd⟩
  obtain ⟨x, y1, y2⟩ := k2.2 d' v' hv'
  exact ⟨x, y1, by rw [e1]; exact RdV.stp q5 y2⟩
abbrev tmH (l : List Tm) : List (Nat × Ent) := [(0, .arr 68 4 (l.map Tm.D).length)]
theorem lx_nonzero {l : List Tm} {t : Tm} (hl : l.length ≤ 1000000) (ht : Sz t.q) :
    LX Tryz.prog 162 [.a (.own 0 4 (l.map Tm.D)), .agg t.A] (tmH l) fun v H => v = .a (.own 0 4 ((l ++ nz1 t).map Tm.D)) ∧ H = tmH (l ++ nz1 t) := by
  refine LX_run (m := 1) (n0 := 1) mix Tryz.func162 rfl rfl rfl rfl ?_
  conv => whnf
  refine .c (lx_zsign (.c ht)) ?_
  conv => whnf
  refine bs (fun h1 => ?_) (fun h1 => ?_)
  · conv => whnf
    have h0 : t.q = 0 := by simpa [Int.sign_eq_zero_iff_zero] using h1
    have e : l ++ nz1 t = l := by rw [nz1, if_pos h0, List.append_nil]
    rw [e]
    exact ⟨_, _, ⟨rfl, rfl⟩, WkV.refl _, rfl, ⟨⟨_, rfl, wke_refl _, rfl⟩, trivial⟩, rfl⟩
  · conv => whnf
    have h0 : ¬ t.q = 0 := by simpa [Int.sign_eq_zero_iff_zero] using h1
    have e : l ++ nz1 t = l ++ [t] := by rw [nz1, if_neg h0]
    rw [e]
    refine .mk ((l ++ [t]).map Tm.D) rfl (by rw [List.map_append]; rfl) (by simp; omega) ?_
    conv => whnf
    exact ⟨_, _, ⟨rfl, rfl⟩, WkV.refl _, rfl, ⟨⟨_, rfl, wke_refl _, rfl⟩, trivial⟩, rfl⟩
theorem lx_plus {f : Af} {n v : Int} {c : Rat} {k l : Nat} (h : FB k n f) (hc : Bt l c) (h0 : 0 ≤ v) (hv : v < n) (hn : n ≤ 100000) (hk : k + l + 1 ≤ 3000000000) :
    LV Tryz.prog 188 [.agg f.A, vl (.int .i64 v), .agg (can c).A] (.agg (plusS f v c).A) := by
  have hlen := h.ts.len (by omega)
  have hcz : Sz c := hc.mono (by omega)
  have hol : ∀ i, (plTo v c f.ts i).1.length ≤ 2 * i + 1 := fun i => by
    induction i with
    | zero => simp [plTo]
    | succ i ih =>
      rcases Nat.lt_or_ge i f.ts.length with hi | hi
      · obtain ⟨t, ht⟩ := at_some hi
        have hz : ∀ t : Tm, (nz1 t).length ≤ 1 := fun t => by unfold nz1; split <;> simp
        rw [plTo_succ ht, plStep]
        have z1 := hz ⟨t.v, t.q + c⟩; have z2 := hz ⟨v, c⟩; have z3 := hz t
        repeat' split
        all_goals (simp only [List.length_append]; omega)
      · have : plTo v c f.ts (i + 1) = plTo v c f.ts i := by rw [plTo, plTo, List.take_of_length_le (by omega), List.take_of_length_le (by omega)]
        rw [this]; omega
  refine LX_run (m := 0) (n0 := 0) mix Tryz.func188 rfl rfl rfl rfl ?_
  conv => whnf
  refine .mk Nat (fun i => ⟨[(9, vl (.int .i64 i)), (8, vl (.bool (plTo v c f.ts i).2)), (7, .a (.own 3 4 ((plTo v c f.ts i).1.map Tm.D))), (6, .a (.ptr 2 0)), (5, .a (.ptr 1 0)), (3, .a (.ptr 0 0)), (1, vl (.int .i64 v))],
    [(0, .box 39 f.A), (1, .box 37 (can c).A), (2, .box 39 [.d (.lit (.slice none 0 0)), .d (.lit (.bool false)), .d (.nat 0), .d (.nat 0)]), (3, .arr 68 4 ((plTo v c f.ts i).1.map Tm.D).length)], 4⟩) (fun i => i ≤ f.ts.length) (fun i => f.ts.length - i) 0
    (Wk.trans (Wk.own 7 3 68 4 rfl rfl (Nat.zero_le _)) Wk.go) (Nat.zero_le _) fun i hi => ?_
  have hsucc := fun t ht => plTo_succ (v := v) (c := c) (ts := f.ts) (i := i) (t := t) ht
  have hoi := hol i
  have hen : i = f.ts.length → plEnd v c (plTo v c f.ts i) = ins v c f.ts := fun e => by rw [e]; exact pl_eq h.ts
  generalize plTo v c f.ts i = a at *
  obtain ⟨o, done⟩ := a
  simp only at hoi
  have hz : ∀ t : Tm, (nz1 t).length ≤ 1 := fun t => by unfold nz1; split <;> simp
  have z2 := hz ⟨v, c⟩
  have fin : i = f.ts.length → f.ts.length = i := fun e => e.symm
  cases done
  all_goals conv => whnf
  · refine bs (fun h1 => ?_) (fun h1 => ?_)
    · conv => whnf
      have h1' : i < f.ts.length := by simpa using h1
      obtain ⟨t, ht⟩ := at_some h1'
      obtain ⟨t1, t2, t3, t4⟩ := h.tm t (List.mem_of_getElem? ht)
      have z3 := hz t
      have tz : Sz t.q := t4.mono (by omega)
      have tc : Sz (t.q + c) := (t4.add hc).mono (by omega)
      specialize hsucc t ht
      refine .mk (i) (t.D) (rfl) (at_map ht) ?_
      conv => whnf
      conv => whnf
      refine bs (fun h2 => ?_) (fun h2 => ?_)
      · conv => whnf
        have e2 : t.v = v := by simpa using h2
        refine .c (lx_zadd (.c tz) (.c hcz)) ?_
        conv => whnf
        refine Cn.o [3] (lx_nonzero (l := o) (t := ⟨t.v, t.q + c⟩) (by omega) tc) ?_
        conv => whnf
        exact ⟨i + 1, by rw [hsucc, plStep, if_pos e2]; exact Wk.go, h1', by omega⟩
      · conv => whnf
        have e2 : ¬ t.v = v := by simpa using h2
        refine bs (fun h3 => ?_) (fun h3 => ?_)
        · conv => whnf
          have e3 : v < t.v := by simpa using h3
          refine .c (lx_zcanon (.c hcz)) ?_
          conv => whnf
          refine Cn.o [3] (lx_nonzero (l := o) (t := ⟨v, c⟩) (by omega) hcz) ?_
          conv => whnf
          refine Cn.o [3] (lx_nonzero (l := o ++ nz1 ⟨v, c⟩) (t := t) (by simp only [List.length_append]; omega) tz) ?_
          conv => whnf
          exact ⟨i + 1, by rw [hsucc, plStep, if_neg e2, if_pos ⟨rfl, e3⟩]; exact Wk.go, h1', by omega⟩
        · conv => whnf
          have e3 : ¬ v < t.v := by simpa using h3
          refine Cn.o [3] (lx_nonzero (l := o) (t := t) (by omega) tz) ?_
          conv => whnf
          exact ⟨i + 1, by rw [hsucc, plStep, if_neg e2, if_neg (fun h => e3 h.2)]; exact Wk.go, h1', by omega⟩
    · conv => whnf
      have e : i = f.ts.length := by simp at h1; omega
      have hh := hen e
      rw [plEnd, if_pos rfl] at hh
      refine .c (lx_zcanon (.c hcz)) ?_
      conv => whnf
      refine Cn.o [3] (lx_nonzero (l := o) (t := ⟨v, c⟩) (by omega) hcz) ?_
      conv => whnf
      exact .s ⟨by rw [plusS, ← hh]; rfl, rfl⟩
  · refine bs (fun h1 => ?_) (fun h1 => ?_)
    · conv => whnf
      have h1' : i < f.ts.length := by simpa using h1
      obtain ⟨t, ht⟩ := at_some h1'
      obtain ⟨t1, t2, t3, t4⟩ := h.tm t (List.mem_of_getElem? ht)
      have z3 := hz t
      have tz : Sz t.q := t4.mono (by omega)
      have tc : Sz (t.q + c) := (t4.add hc).mono (by omega)
      specialize hsucc t ht
      refine .mk (i) (t.D) (rfl) (at_map ht) ?_
      conv => whnf
      conv => whnf
      refine bs (fun h2 => ?_) (fun h2 => ?_)
      · conv => whnf
        have e2 : t.v = v := by simpa using h2
        refine .c (lx_zadd (.c tz) (.c hcz)) ?_
        conv => whnf
        refine Cn.o [3] (lx_nonzero (l := o) (t := ⟨t.v, t.q + c⟩) (by omega) tc) ?_
        conv => whnf
        exact ⟨i + 1, by rw [hsucc, plStep, if_pos e2]; exact Wk.go, h1', by omega⟩
      · conv => whnf
        have e2 : ¬ t.v = v := by simpa using h2
        refine Cn.o [3] (lx_nonzero (l := o) (t := t) (by omega) tz) ?_
        conv => whnf
        exact ⟨i + 1, by rw [hsucc, plStep, if_neg e2, if_neg (fun h => Bool.noConfusion h.1)]; exact Wk.go, h1', by omega⟩
    · conv => whnf
      have e : i = f.ts.length := by simp at h1; omega
      have hh := hen e
      rw [plEnd, if_neg (fun h => Bool.noConfusion h)] at hh
      exact .s ⟨by rw [plusS, ← hh]; rfl, rfl⟩
theorem lx_zvar {v : Int} : LV Tryz.prog 155 [vl (.int .i64 v)] (.agg (varS v).A) := by
  refine LX_run (m := 0) (n0 := 0) mix Tryz.func155 rfl rfl rfl rfl ?_
  conv => whnf
  refine .c (lx_zof (z := 1) (by decide) (by decide)) ?_
  conv => whnf
  exact .s ⟨by show _ = V.agg (A.d _ :: (can 0).A); rw [can0]; rfl, rfl⟩
theorem TsOk.take {n : Int} : ∀ {ts : List Tm} {lo : Int} (i : Nat), TsOk n lo ts → TsOk n lo (ts.take i)
  | [], _, i, _ => by simp [TsOk]
  | t :: ts, _, 0, _ => trivial
  | t :: ts, lo, i + 1, h => ⟨h.1, h.2.1, h.2.2.1, TsOk.take i h.2.2.2⟩
theorem TsOk.cof_b {n : Int} {k : Nat} (w : Int) : ∀ {ts : List Tm} {lo : Int}, TsOk n lo ts → (∀ t ∈ ts, Bt k t.q) → Bt k (cof ts w)
  | [], _, _, _ => bt0 k
  | t :: ts, lo, h, hb => by
    rw [cof]
    split
    · rename_i e
      rw [h.2.2.2.cof_lt (by omega), Rat.add_zero]; exact hb t (by simp)
    · rw [Rat.zero_add]; exact TsOk.cof_b w h.2.2.2 fun t ht => hb t (by simp [ht])
theorem FB.take {k : Nat} {n : Int} {f : Af} (h : FB k n f) (i : Nat) : FB k n ⟨f.ts.take i, f.c⟩ :=
  ⟨h.ts.take i, fun w => (h.ts.take i).cof_b w fun t ht => (h.tm t (List.mem_of_mem_take ht)).2.2.2, h.c⟩
def addTo (f g : Af) (i : Nat) : List Tm := (g.ts.take i).foldl (fun a t => ins t.v t.q a) f.ts
theorem lx_add {f g : Af} {n : Int} {k l : Nat} (h : FB k n f) (h' : FB l n g) (h0 : 0 ≤ n) (hn : n ≤ 100000) (hk : k + l + 1 ≤ 1000000000) : LV Tryz.prog 154 [.agg f.A, .agg g.A] (.agg (addS f g).A) := by
  have hlen := h'.ts.len h0
  refine LX_run (m := 0) (n0 := 0) mix Tryz.func154 rfl rfl rfl rfl ?_
  conv => whnf
  refine .c (lx_zadd (.c (h.c.mono (by omega))) (.c (h'.c.mono (by omega)))) ?_
  conv => whnf
  refine .mk (by kernel_rfl) ?_
  conv => whnf
  refine .mk Nat (fun i => ⟨[(6, vl (.int .i64 i)), (5, .a (.ptr 3 0)), (4, .a (.ptr 2 0)), (3, .a (.ptr 1 0))], [(1, .box 39 g.A), (2, .box 39 [.d (.lit (.slice none 0 0)), .d (.lit (.bool false)), .d (.nat 0), .d (.nat 0)]), (3, .box 39 (Af.A ⟨addTo f g i, f.c + g.c⟩))], 4⟩) (fun i => i ≤ g.ts.length) (fun i => g.ts.length - i) 0 Wk.go (Nat.zero_le _) fun i hi => ?_
  conv => whnf
  conv => whnf
  have hp : FB (k + l + 1) n ⟨addTo f g i, f.c + g.c⟩ := h.add (h'.take i)
  have hlp := hp.ts.len h0
  refine bs (fun h1 => ?_) (fun h1 => ?_)
  · conv => whnf
    have h1' : i < g.ts.length := by simpa using h1
    obtain ⟨t, ht⟩ := at_some h1'
    obtain ⟨t1, t2, t3, t4⟩ := h'.tm t (List.mem_of_getElem? ht)
    have e : addTo f g (i + 1) = ins t.v t.q (addTo f g i) := by rw [addTo, take_snoc ht, List.foldl_append]; rfl
    refine .mk (i) (t.D) (rfl) (at_map ht) ?_
    conv => whnf
    conv => whnf
    refine .mk (i) (t.D) (rfl) (at_map ht) ?_
    conv => whnf
    conv => whnf
    refine .c (lx_plus hp t4 t1 t2 hn (by omega)) ?_
    conv => whnf
    refine .mk (by kernel_rfl) ?_
    conv => whnf
    exact ⟨i + 1, by rw [e]; exact Wk.go, h1', by omega⟩
  · conv => whnf
    have e : i = g.ts.length := by simp at h1; omega
    have e2 : addTo f g i = (addS f g).ts := by rw [addTo, e, List.take_length]; rfl
    simp only at hlp
    refine .mk ((addTo f g i).map Tm.D) rfl rfl (by simp; omega) ?_
    conv => whnf
    refine .mk (by kernel_rfl) ?_
    conv => whnf
    exact .s ⟨by rw [e2]; rfl, rfl⟩
def scTo (f : Af) (c : Rat) (i : Nat) : List Tm := (f.ts.take i).flatMap fun t => nz1 ⟨t.v, t.q * c⟩
theorem scTo_len (f : Af) (c : Rat) (i : Nat) : (scTo f c i).length ≤ i := by
  unfold scTo
  refine Nat.le_trans ?_ (List.length_take_le i f.ts)
  generalize f.ts.take i = l
  induction l with
  | nil => simp
  | cons t l ih =>
    have : (nz1 ⟨t.v, t.q * c⟩).length ≤ 1 := by unfold nz1; split <;> simp
    simp only [List.flatMap_cons, List.length_append, List.length_cons]; omega
theorem lx_scale {f : Af} {n : Int} {c : Rat} {k l : Nat} (h : FB k n f) (hc : Bt l c) (h0 : 0 ≤ n) (hn : n ≤ 100000) (hk : k + l ≤ 3000000000) : LV Tryz.prog 116 [.agg f.A, .agg (can c).A] (.agg (scaleS f c).A) := by
  have hlen := h.ts.len h0
  refine LX_run (m := 0) (n0 := 0) mix Tryz.func116 rfl rfl rfl rfl ?_
  conv => whnf
  refine .c (lx_zmul (.c (h.c.mono (by omega))) (.c (hc.mono (by omega)))) ?_
  conv => whnf
  refine .mk Nat (fun i => ⟨[(6, vl (.int .i64 i)), (5, .a (.ptr 3 0)), (4, .a (.ptr 2 0)), (3, .a (.ptr 1 0)), (2, .a (.ptr 0 0))], [(0, .box 39 f.A), (1, .box 37 (can c).A), (2, .box 39 [.d (.lit (.slice none 0 0)), .d (.lit (.bool false)), .d (.nat 0), .d (.nat 0)]),
    (3, .box 39 (.own 4 4 ((scTo f c i).map Tm.D) :: (can (f.c * c)).A)), (4, .arr 68 4 ((scTo f c i).map Tm.D).length)], 5⟩) (fun i => i ≤ f.ts.length) (fun i => f.ts.length - i) 0
    (Wk.trans (Wk.ownB 3 4 0 68 4 rfl rfl rfl) Wk.go) (Nat.zero_le _) fun i hi => ?_
  conv => whnf
  have hsl := scTo_len f c i
  refine bs (fun h1 => ?_) (fun h1 => ?_)
  · conv => whnf
    have h1' : i < f.ts.length := by simpa using h1
    obtain ⟨t, ht⟩ := at_some h1'
    obtain ⟨t1, t2, t3, t4⟩ := h.tm t (List.mem_of_getElem? ht)
    have e : scTo f c (i + 1) = scTo f c i ++ nz1 ⟨t.v, t.q * c⟩ := by rw [scTo, take_snoc ht, List.flatMap_append]; simp; rfl
    refine .mk (i) (t.D) (rfl) (at_map ht) ?_
    conv => whnf
    conv => whnf
    refine .mk (i) (t.D) (rfl) (at_map ht) ?_
    conv => whnf
    conv => whnf
    refine .c (lx_zmul (.c (t4.mono (by omega))) (.c (hc.mono (by omega)))) ?_
    conv => whnf
    refine Cn.o [4] (lx_nonzero (l := scTo f c i) (t := ⟨t.v, t.q * c⟩) (by omega) ((t4.mul hc).mono (by omega))) ?_
    conv => whnf
    refine .mk (by kernel_rfl) ?_
    conv => whnf
    exact ⟨i + 1, by rw [e]; exact Wk.go, h1', by omega⟩
  · conv => whnf
    have e : i = f.ts.length := by simp at h1; omega
    have e2 : scTo f c i = (scaleS f c).ts := by rw [scTo, e, List.take_length]; rfl
    exact .s ⟨by rw [e2]; rfl, rfl⟩
end Go.Proofs.YtikglhmabidjoaaGreatDoor.Lf
