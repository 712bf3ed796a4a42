/- Layer 38, lifted: the rule that bisects. -/
import Derived.Test.YtikglhmabidjoaaGreatDoorLgK
namespace Go.Proofs.YtikglhmabidjoaaGreatDoor.Lf
open Go.RowKit Nt
set_option linter.unusedVariables false
set_option linter.unusedSimpArgs false
set_option maxRecDepth 100000
theorem Bt.int {z : Int} {k : Nat} (h : z.natAbs ≤ 2 ^ k) : Bt k (z : Rat) := ⟨by rw [Rat.num_intCast]; exact h, by rw [Rat.den_intCast]; exact Nat.one_le_two_pow⟩
def isIn (d : Dc) : Bool := (d.k == 3) || (d.k == 4)
def cntI (l : List Dc) : Nat := (l.filter isIn).length
theorem cntI_succ {l : List Dc} {i : Nat} {d : Dc} (h : l[i]? = some d) : cntI (l.take (i + 1)) = if isIn d = true then cntI (l.take i) + 1 else cntI (l.take i) := by
  simp only [cntI, take_snoc h, List.filter_append, List.length_append]
  split <;> simp_all
theorem cntI_le (l : List Dc) (i : Nat) : cntI (l.take i) ≤ i := Nat.le_trans (List.length_filter_le _ _) (List.length_take_le _ _)
def ivAt (L : List Iv) (j : Nat) : Iv := (L[j]?).getD ⟨0, 0⟩
def wd (L : List Iv) (j : Nat) : Rat := (ivAt L j).hi - (ivAt L j).lo
def wTo (L : List Iv) : Nat → Nat
  | 0 => 0
  | i + 1 => if decide (cmpQ (wd L i) (wd L (wTo L i)) > 0) = true then i else wTo L i
theorem wTo_lt (L : List Iv) (h : 0 < L.length) : ∀ i, i ≤ L.length → wTo L i < L.length
  | 0, _ => h
  | i + 1, hi => by
    have ih := wTo_lt L h i (by omega)
    simp only [wTo]
    split <;> omega
theorem ivAt_some {L : List Iv} {j : Nat} (h : j < L.length) : L[j]? = some (ivAt L j) := by
  unfold ivAt
  rw [List.getElem?_eq_getElem h]; rfl
theorem wd_b {L : List Iv} (h : IvB L) (j : Nat) : Bt 600000001 (wd L j) := by
  unfold wd ivAt
  cases hx : L[j]? with
  | none => show Bt _ ((0 : Rat) - 0); rw [show (0 : Rat) - 0 = 0 from by grind]; exact bt0 _
  | some v =>
    have := (h v (List.mem_of_getElem? hx)).2.sub (h v (List.mem_of_getElem? hx)).1
    exact this.mono (by decide)
theorem ivAt_b {L : List Iv} (h : IvB L) (j : Nat) : Bt 300000000 (ivAt L j).lo ∧ Bt 300000000 (ivAt L j).hi := by
  unfold ivAt
  cases hx : L[j]? with
  | none => exact ⟨bt0 _, bt0 _⟩
  | some v => exact h v (List.mem_of_getElem? hx)
def firS (s : Sp) : Dc := onD ((openS s).headD 0 : Nat)
def bisS (s : Sp) : Dc :=
  if decide ((cntI s.path : Int) ≥ 4) = true ∨ bxE s ≠ 0 then firS s
  else if (wd (bxR s) (wTo (bxR s) (bxR s).length)).num.sign = 0 then firS s
  else ⟨3, wTo (bxR s) (bxR s).length, can (((ivAt (bxR s) (wTo (bxR s) (bxR s).length)).lo + (ivAt (bxR s) (wTo (bxR s) (bxR s).length)).hi) / ((2 : Int) : Rat))⟩
abbrev ivH (L : List Iv) : List (Nat × Ent) := [(0, .box 121 [.d (ivsD L)])]
theorem lx_wd {L : List Iv} {j : Nat} (hb : IvB L) (hj : j < L.length) : LX Tryz.prog 72 [vl (.int .i64 j), .a (.ptr 0 0)] (ivH L) fun v H => v = ratV (wd L j) ∧ H = ivH L := by
  have hv := ivAt_b hb j
  refine LX_run (m := 1) (n0 := 1) mix Tryz.func72 rfl rfl rfl rfl ?_
  conv => whnf
  refine .mk (j) ((ivAt L j).D) (rfl) (at_map (ivAt_some hj)) ?_
  conv => whnf
  conv => whnf
  refine .mk (j) ((ivAt L j).D) (rfl) (at_map (ivAt_some hj)) ?_
  conv => whnf
  conv => whnf
  refine .c (lx_rsub (.c (hv.2.mono (by decide))) (.c (hv.1.mono (by decide)))) ?_
  conv => whnf
  refine .mk (by kernel_rfl) ?_
  conv => whnf
  exact ⟨_, _, ⟨rfl, rfl⟩, WkV.refl _, rfl, ⟨⟨_, rfl, wke_refl _, rfl⟩, trivial⟩, rfl⟩
theorem bxR_len {s : Sp} (hs : SpOk s) (h : bxE s = 0) : (bxR s).length = s.q.g.n := by
  unfold bxE at h
  unfold bxR
  split at h
  · cases h
  · rename_i h'; rw [if_neg h']; exact bx_len hs _
theorem bxR_b {s : Sp} (hs : SpOk s) : IvB (bxR s) := by
  unfold bxR
  split
  · intro v hv; cases hv
  · have := bx_b hs s.path.length
    rw [List.take_length] at this; exact this
theorem lx_bisect {s : Sp} {pt : List Rat} {u : Nat} {l : List Nat} (hs : SpOk s) (ho : openS s = u :: l) :
    LX Tryz.prog 33 [.a (.ptr 0 0)] (chH s pt) fun v H => v = dcV (bisS s) ∧ H = chH s pt := by
  have hpl := hs.pl; have hn1 := hs.q.g.n1; have hn2 := hs.q.g.n2
  have hfir : firS s = onD u := by rw [firS, ho]; rfl
  refine LX_run (m := 1) (n0 := 1) mix Tryz.func33 rfl rfl rfl rfl ?_
  conv => whnf
  refine .mk Nat (fun i => ⟨[(19, vl (.int .i64 i)), (18, vl (.int .i64 (s.path.map Dc.D).length)), (17, .a (.d (dcsD s.path))), (3, vl (.int .i64 (cntI (s.path.take i)))), (2, .a (.ptr 1 0)), (0, .a (.ptr 0 0))], [(0, .box 85 (chA s pt)), (1, .box 46 [.d (.lit (.int .i64 0)), .d (.lit (.int .i64 0)), .d (.lit (.bool false)), .d (.nat 0), .d (.nat 0)])], 2⟩) (fun i => i ≤ s.path.length) (fun i => s.path.length - i) 0 Wk.go (Nat.zero_le _) fun i hi => ?_
  conv => whnf
  conv => whnf
  refine bs (fun h1 => ?_) (fun h1 => ?_)
  · conv => whnf
    have h1' : i < s.path.length := by simpa using h1
    obtain ⟨d, hd⟩ := at_some h1'
    have hc := cntI_succ hd
    have hcl := cntI_le s.path i
    generalize cntI (s.path.take i) = m at *
    refine .mk (i) (d.D) (rfl) (at_map hd) ?_
    conv => whnf
    conv => whnf
    refine bs (fun h2 => ?_) (fun h2 => ?_)
    · conv => whnf
      exact ⟨i + 1, by rw [hc, if_pos (by simp [isIn]; left; simpa using h2)]; exact Wk.go, h1', by omega⟩
    · conv => whnf
      refine bs (fun h3 => ?_) (fun h3 => ?_)
      · conv => whnf
        exact ⟨i + 1, by rw [hc, if_pos (by simp [isIn]; right; simpa using h3)]; exact Wk.go, h1', by omega⟩
      · conv => whnf
        exact ⟨i + 1, by rw [hc, if_neg (by simp at h2 h3; simp [isIn, h2, h3])]; exact Wk.go, h1', by omega⟩
  · conv => whnf
    have e : i = s.path.length := by simp at h1; omega
    subst e
    rw [List.take_length]
    refine .c (lx_box hs) ?_
    conv => whnf
    have hx := bxR_len hs
    have hxb := bxR_b hs
    refine bs (fun h2 => ?_) (fun h2 => ?_)
    · conv => whnf
      refine .l [0] (lx_first ho) ?_
      conv => whnf
      exact ⟨_, _, ⟨by rw [bisS, if_pos (.inl h2), hfir], rfl⟩, WkV.refl _, rfl, ⟨⟨_, rfl, wke_refl _, rfl⟩, trivial⟩, rfl⟩
    · conv => whnf
      refine bs (fun h3 => ?_) (fun h3 => ?_)
      · conv => whnf
        refine .l [0] (lx_first ho) ?_
        conv => whnf
        exact ⟨_, _, ⟨by rw [bisS, if_pos (.inr (by simpa using h3)), hfir], rfl⟩, WkV.refl _, rfl, ⟨⟨_, rfl, wke_refl _, rfl⟩, trivial⟩, rfl⟩
      · conv => whnf
        have h3' : bxE s = 0 := by simpa using h3
        have hc : ¬ (decide ((cntI s.path : Int) ≥ 4) = true ∨ bxE s ≠ 0) := by rw [h2]; simp [h3']
        specialize hx h3'
        have hdef : bisS s = if (wd (bxR s) (wTo (bxR s) (bxR s).length)).num.sign = 0 then firS s else ⟨3, wTo (bxR s) (bxR s).length, can (((ivAt (bxR s) (wTo (bxR s) (bxR s).length)).lo + (ivAt (bxR s) (wTo (bxR s) (bxR s).length)).hi) / ((2 : Int) : Rat))⟩ := by rw [bisS, if_neg hc]
        generalize bxR s = L at *
        have hL : 0 < L.length := by omega
        refine .mk Nat (fun j => ⟨[(53, vl (.int .i64 j)), (52, vl (.int .i64 (L.map Iv.D).length)), (9, vl (.int .i64 (wTo L j))), (8, .a (.fn (.func 72) [] [.ptr 2 0])), (6, .a (.ptr 2 0)), (2, .a (.ptr 1 0)), (0, .a (.ptr 0 0))], [(0, .box 85 (chA s pt)), (1, .box 46 [.d (.lit (.int .i64 0)), .d (.lit (.int .i64 0)), .d (.lit (.bool false)), .d (.nat 0), .d (.nat 0)]), (2, .box 121 [.d (ivsD L)])], 3⟩) (fun j => j ≤ L.length) (fun j => L.length - j) 0 Wk.go (Nat.zero_le _) fun j hj => ?_
        conv => whnf
        conv => whnf
        have hwl := wTo_lt L hL j hj
        refine bs (fun h4 => ?_) (fun h4 => ?_)
        · conv => whnf
          have h4' : j < L.length := by simpa using h4
          refine .l [2] (lx_wd hxb h4') ?_
          conv => whnf
          refine .l [2] (lx_wd hxb hwl) ?_
          conv => whnf
          refine .c (lx_rcmp (.c ((wd_b hxb _).mono (by decide))) (.c ((wd_b hxb _).mono (by decide)))) ?_
          conv => whnf
          refine bs (fun h5 => ?_) (fun h5 => ?_)
          · conv => whnf
            exact ⟨j + 1, by rw [wTo, if_pos h5]; exact Wk.go, h4', by omega⟩
          · conv => whnf
            exact ⟨j + 1, by rw [wTo, if_neg (by rw [h5]; exact Bool.false_ne_true)]; exact Wk.go, h4', by omega⟩
        · conv => whnf
          have e : j = L.length := by simp at h4; omega
          subst e
          generalize wTo L L.length = m at *
          have hv := ivAt_b hxb m
          refine .l [2] (lx_wd hxb hwl) ?_
          conv => whnf
          refine .c (lx_rsign (.c ((wd_b hxb _).mono (by decide)))) ?_
          conv => whnf
          refine bs (fun h6 => ?_) (fun h6 => ?_)
          · conv => whnf
            refine .l [0] (lx_first ho) ?_
            conv => whnf
            exact ⟨_, _, ⟨by rw [hdef, if_pos (by simpa using h6), hfir], rfl⟩, WkV.refl _, rfl, ⟨⟨_, rfl, wke_refl _, rfl⟩, trivial⟩, rfl⟩
          · conv => whnf
            refine .mk (m) ((ivAt L m).D) (rfl) (at_map (ivAt_some hwl)) ?_
            conv => whnf
            conv => whnf
            refine .mk (m) ((ivAt L m).D) (rfl) (at_map (ivAt_some hwl)) ?_
            conv => whnf
            conv => whnf
            refine .c (lx_radd (.c (hv.1.mono (by decide))) (.c (hv.2.mono (by decide)))) ?_
            conv => whnf
            refine .c (lx_rof (z := 2) (by decide) (by decide)) ?_
            conv => whnf
            refine .c (lx_rdiv (b := ((2 : Int) : Rat)) (by decide) (.c ((hv.1.add hv.2).mono (by decide))) (.c ((Bt.int (k := 2) (by decide)).mono (by decide)))) ?_
            conv => whnf
            refine .mk (by kernel_rfl) ?_
            conv => whnf
            exact ⟨_, _, ⟨by rw [hdef, if_neg (by simpa using h6)], rfl⟩, WkV.refl _, rfl, ⟨⟨_, rfl, wke_refl _, rfl⟩, trivial⟩, rfl⟩
theorem lx_further0 {s : Sp} {pt : List Rat} {u : Nat} {l : List Nat} (hs : SpOk s) (ho : openS s = u :: l) (hp : pt.length ≠ s.q.g.n + s.q.g.us.length) (hpl : pt.length ≤ 1000000) :
    LX Tryz.prog 34 [.a (.ptr 0 0)] (chH s pt) fun v H => v = dcV (onD (gMost (gapS s) (openS s))) ∧ H = chH s pt := by
  refine LX_run (m := 1) (n0 := 1) mix Tryz.func34 rfl rfl rfl rfl ?_
  conv => whnf
  refine .c (lx_gvars hs.q.g) ?_
  conv => whnf
  refine bT (by rw [List.length_map]; simp; omega) ?_
  conv => whnf
  refine .mk (by kernel_rfl) ?_
  conv => whnf
  refine .l [0] (lx_widest hs ho) ?_
  conv => whnf
  exact ⟨_, _, ⟨rfl, rfl⟩, WkV.refl _, rfl, ⟨⟨_, rfl, wke_refl _, rfl⟩, trivial⟩, rfl⟩
def dc0 : Dc := ⟨0, 0, ⟨false, limbs 0, limbs 0⟩⟩
def csE (s : Sp) (r : Int) : Int := if r < 0 ∨ 3 < r then 1 else if (openS s).isEmpty then 10 else 0
def csD (s : Sp) (fd : Dc) (r : Int) : Dc := if csE s r ≠ 0 then dc0 else if r = 0 then firS s else if r = 1 then onD (gMost (gapS s) (openS s)) else if r = 2 then bisS s else fd
theorem lx_choose {s : Sp} {pt : List Rat} {fd : Dc} {r : Int} (hs : SpOk s) (hpl : pt.length ≤ 1000000)
    (hf : ∀ u l, openS s = u :: l → LX Tryz.prog 34 [.a (.ptr 0 0)] (chH s pt) fun v H => v = dcV fd ∧ H = chH s pt) :
    LV Tryz.prog 10 [.agg s.A, .a (.d (rqsD pt)), vl (.int .i64 r)] (.tup [.g (csD s fd r).A, .s (.d (.lit (.int .i64 (csE s r))))]) := by
  by_cases hr : r < 0 ∨ 3 < r
  · have h1 : csE s r = 1 := by rw [csE, if_pos hr]
    refine LX_run (m := 0) (n0 := 0) mix Tryz.func10 rfl rfl rfl rfl ?_
    conv => whnf
    refine .c (lx_quvalid hs.q) ?_
    conv => whnf
    repeat' first | (refine bs (fun h => ?_) (fun h => ?_) <;> conv => whnf) | (refine Nc.mk (by kernel_rfl) ?_; conv => whnf)
    all_goals first
      | (exact .q ⟨by rw [h1, csD, if_pos (by rw [h1]; decide)]; rfl, rfl⟩)
      | (exfalso; simp at *; omega)
  · have hul := openS_len s
    have hus := hs.q.g.u1
    refine LX_run (m := 0) (n0 := 0) mix Tryz.func10 rfl rfl rfl rfl ?_
    conv => whnf
    refine .c (lx_quvalid hs.q) ?_
    conv => whnf
    refine bF (decide_eq_false (by omega)) ?_
    conv => whnf
    refine bF (decide_eq_false (by omega)) ?_
    conv => whnf
    refine .l [] (lx_open) ?_
    conv => whnf
    refine .l [2] (lx_collect hs) ?_
    conv => whnf
    refine .mk (by kernel_rfl) ?_
    conv => whnf
    obtain ho | ⟨u, l, ho⟩ : openS s = [] ∨ ∃ u l, openS s = u :: l := by
      cases openS s with
      | nil => exact .inl rfl
      | cons u l => exact .inr ⟨u, l, rfl⟩
    · have h1 : csE s r = 10 := by rw [csE, if_neg hr, ho]; rfl
      refine bT (by rw [List.length_map, ho]; rfl) ?_
      conv => whnf
      exact .q ⟨by rw [h1, csD, if_pos (by rw [h1]; decide)]; rfl, rfl⟩
    · have h1 : csE s r = 0 := by rw [csE, if_neg hr, ho]; rfl
      have h2 : csD s fd r = if r = 0 then firS s else if r = 1 then onD (gMost (gapS s) (openS s)) else if r = 2 then bisS s else fd := by rw [csD, if_neg (by rw [h1]; decide)]
      have hfir : firS s = onD u := by rw [firS, ho]; rfl
      refine bF (by rw [List.length_map, ho]; simp; omega) ?_
      conv => whnf
      obtain rfl | rfl | rfl | rfl : r = 0 ∨ r = 1 ∨ r = 2 ∨ r = 3 := by omega
      all_goals conv => whnf
      · refine .l [4] (lx_first ho) ?_
        conv => whnf
        exact .q ⟨by rw [h1, h2, if_pos rfl, hfir], rfl⟩
      · refine .l [4] (lx_widest hs ho) ?_
        conv => whnf
        exact .q ⟨by rw [h1, h2, if_neg (by decide), if_pos rfl], rfl⟩
      · refine .l [4] (lx_bisect hs ho) ?_
        conv => whnf
        exact .q ⟨by rw [h1, h2, if_neg (by decide), if_neg (by decide), if_pos rfl], rfl⟩
      · refine .l [4] (hf u l ho) ?_
        conv => whnf
        exact .q ⟨by rw [h1, h2, if_neg (by decide), if_neg (by decide), if_neg (by decide)], rfl⟩
theorem lx_choose0 {s : Sp} {r : Int} (hs : SpOk s) : LV Tryz.prog 10 [.agg s.A, .a (.d (.sl 3 [])), vl (.int .i64 r)] (.tup [.g (csD s (onD (gMost (gapS s) (openS s))) r).A, .s (.d (.lit (.int .i64 (csE s r))))]) :=
  lx_choose (pt := []) hs (Nat.zero_le _) fun u l ho => lx_further0 hs ho (by have := hs.q.g.n1; simp; omega) (Nat.zero_le _)
end Go.Proofs.YtikglhmabidjoaaGreatDoor.Lf
