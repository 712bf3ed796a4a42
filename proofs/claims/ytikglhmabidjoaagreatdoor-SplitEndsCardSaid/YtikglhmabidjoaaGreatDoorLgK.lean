/- Layer 38, lifted: bits of sums, products, quotients; gaps. -/
import Derived.Test.YtikglhmabidjoaaGreatDoorLgJ
namespace Go.Proofs.YtikglhmabidjoaaGreatDoor.Lf
open Go.RowKit Nt
set_option linter.unusedVariables false
set_option linter.unusedSimpArgs false
set_option maxRecDepth 100000
theorem bt_mk {k : Nat} {z : Int} {d : Nat} (hd : 0 < d) (h1 : z.natAbs ≤ 2 ^ k) (h2 : d ≤ 2 ^ k) : Bt k (mkRat z d) := by
  refine ⟨?_, ?_⟩
  · rw [Rat.num_mkRat]
    split
    · simp
    · refine Nat.le_trans ?_ h1
      rw [Int.natAbs_ediv_of_dvd (Int.ofNat_dvd_left.2 (by first | exact Nat.gcd_dvd_left _ _ | exact Nat.gcd_dvd_right _ _))]
      exact Nat.div_le_self _ _
  · rw [Rat.den_mkRat]
    split
    · exact Nat.one_le_two_pow
    · exact Nat.le_trans (Nat.div_le_self _ _) h2
theorem Bt.mul {k l : Nat} {a b : Rat} (h : Bt k a) (h' : Bt l b) : Bt (k + l) (a * b) := by
  rw [← Rat.mkRat_self a, ← Rat.mkRat_self b, Rat.mkRat_mul_mkRat]
  refine bt_mk (Nat.mul_pos a.den_pos b.den_pos) ?_ ?_
  · rw [Int.natAbs_mul, Nat.pow_add]; exact Nat.mul_le_mul h.1 h'.1
  · rw [Nat.pow_add]; exact Nat.mul_le_mul h.2 h'.2
theorem Bt.add {k l : Nat} {a b : Rat} (h : Bt k a) (h' : Bt l b) : Bt (k + l + 1) (a + b) := by
  rw [← Rat.mkRat_self a, ← Rat.mkRat_self b, Rat.mkRat_add_mkRat _ _ a.den_nz b.den_nz]
  have h1 := Nat.mul_le_mul h.1 h'.2
  have h2 := Nat.mul_le_mul h'.1 h.2
  have h3 := Nat.mul_le_mul h.2 h'.2
  rw [← Nat.pow_add] at h1 h2 h3
  rw [Nat.add_comm l k] at h2
  have e : 2 ^ (k + l + 1) = 2 ^ (k + l) + 2 ^ (k + l) := by rw [Nat.pow_succ]; omega
  refine bt_mk (Nat.mul_pos a.den_pos b.den_pos) ?_ (by omega)
  refine Nat.le_trans (Int.natAbs_add_le _ _) ?_
  rw [Int.natAbs_mul, Int.natAbs_mul, Int.natAbs_natCast, Int.natAbs_natCast]
  omega
theorem Bt.neg {k : Nat} {a : Rat} (h : Bt k a) : Bt k (-a) := by
  refine ⟨?_, ?_⟩
  · rw [Rat.neg_num, Int.natAbs_neg]; exact h.1
  · rw [Rat.neg_den]; exact h.2
theorem Bt.sub {k l : Nat} {a b : Rat} (h : Bt k a) (h' : Bt l b) : Bt (k + l + 1) (a - b) := by
  rw [Rat.sub_eq_add_neg]; exact h.add h'.neg
theorem Bt.inv {k : Nat} {a : Rat} (h : Bt k a) (h0 : a ≠ 0) : Bt k a⁻¹ := by
  have hn : a.num ≠ 0 := by simpa using h0
  refine ⟨?_, ?_⟩
  · rw [Rat.num_inv, Int.natAbs_mul, Int.natAbs_sign_of_ne_zero hn, Nat.one_mul, Int.natAbs_natCast]; exact h.2
  · rw [Rat.den_inv, if_neg (by simpa using h0)]; exact h.1
theorem Bt.div {k l : Nat} {a b : Rat} (h : Bt k a) (h' : Bt l b) (h0 : b ≠ 0) : Bt (k + l) (a / b) := by
  rw [Rat.div_def]; exact h.mul (h'.inv h0)
theorem Bt.max {k : Nat} {a b : Rat} (h : Bt k a) (h' : Bt k b) : Bt k (if b ≤ a then a else b) := by split <;> assumption
theorem sg_lt {q : Rat} : decide (q.num.sign < 0) = decide (q < 0) := by
  have : q.num.sign < 0 ↔ q < 0 := by rw [Int.sign_neg_iff, ← Rat.not_le, ← Rat.num_nonneg]; omega
  simp [this]
theorem sg_gt {q : Rat} : decide (q.num.sign > 0) = decide (0 < q) := by
  have : q.num.sign > 0 ↔ 0 < q := by
    rw [gt_iff_lt, Int.sign_pos_iff, ← Rat.not_le]
    have h2 := Rat.num_nonneg (q := -q)
    rw [Rat.neg_num] at h2
    have h3 : 0 ≤ -q ↔ q ≤ 0 := by constructor <;> intro h <;> grind
    rw [← h3, ← h2]; omega
  simp [this]
theorem rat0V : V.agg [A.d (.lit (.bool false)), .d (.lm (limbs 0)), .d (.lm (limbs 0))] = ratV 0 := by
  have h := can0
  injection h with h1 h2 h3
  show _ = V.agg [_, _, _]
  rw [h1, h2, h3]
def unB (l u : Rat) : Bool := decide (l < 0) && decide (0 < u)
def gapQ (l u : Rat) : Rat := if unB l u = true then -(l * u) / (u - l) else 0
theorem un_ne {l u : Rat} (h : unB l u = true) : u - l ≠ 0 := by
  simp [unB] at h; grind
theorem Bt.gap {l u : Rat} (h1 : Bt 300000000 l) (h2 : Bt 300000000 u) : Bt 1200000001 (gapQ l u) := by
  unfold gapQ
  split
  · rename_i h
    exact ((h1.mul h2).neg.div (h2.sub h1) (un_ne h)).mono (by decide)
  · exact bt0 _
theorem lx_unstable {x y : Rw} (hx : x.sm) (hy : y.sm) : LV Tryz.prog 168 [.agg x.A, .agg y.A] (vl (.bool (unB x.q y.q))) := by
  refine LX_run (m := 0) (n0 := 0) mix Tryz.func168 rfl rfl rfl rfl ?_
  conv => whnf
  repeat' first | (refine bs (fun h => ?_) (fun h => ?_) <;> conv => whnf) | (refine Nc.mk (by kernel_rfl) ?_; conv => whnf) | (refine .c (lx_rsign hx.rq) ?_; conv => whnf) | (refine .c (lx_rsign hy.rq) ?_; conv => whnf)
  all_goals simp only [sg_lt, sg_gt] at *
  all_goals exact .q ⟨by simp_all [unB], rfl⟩
theorem lx_quot {a b : Rat} (ha : Sz a) (hb : Sz b) (h0 : b ≠ 0) : LV Tryz.prog 169 [ratV a, ratV b] (ratV (a / b)) := by
  refine LX_run (m := 0) (n0 := 0) mix Tryz.func169 rfl rfl rfl rfl ?_
  conv => whnf
  refine .c (lx_rdiv h0 (.c ha) (.c hb)) ?_
  conv => whnf
  exact .q ⟨rfl, rfl⟩
theorem lx_gap {x y : Rw} (hx : x.sm) (hy : y.sm) (bx : Bt 300000000 x.q) (by_ : Bt 300000000 y.q) : LV Tryz.prog 124 [.agg x.A, .agg y.A] (ratV (gapQ x.q y.q)) := by
  refine LX_run (m := 0) (n0 := 0) mix Tryz.func124 rfl rfl rfl rfl ?_
  conv => whnf
  refine .c (lx_unstable hx hy) ?_
  conv => whnf
  refine bs (fun h => ?_) (fun h => ?_)
  · conv => whnf
    refine .c (lx_rmul hx.rq hy.rq) ?_
    conv => whnf
    refine .c (lx_rneg (.c ((bx.mul by_).mono (by decide)))) ?_
    conv => whnf
    refine .c (lx_rsub hy.rq hx.rq) ?_
    conv => whnf
    refine .c (lx_quot ((bx.mul by_).neg.mono (by decide)) ((by_.sub bx).mono (by decide)) (un_ne h)) ?_
    conv => whnf
    refine .mk (by kernel_rfl) ?_
    conv => whnf
    exact .q ⟨by rw [gapQ, if_pos h], rfl⟩
  · conv => whnf
    exact .q ⟨by rw [gapQ, if_neg (by rw [h]; exact Bool.false_ne_true)]; exact rat0V, rfl⟩
abbrev chA (s : Sp) (pt : List Rat) : List A := s.A ++ [.d (rqsD pt), .d (natsD (openS s))]
abbrev chH (s : Sp) (pt : List Rat) : List (Nat × Ent) := [(0, .box 85 (chA s pt))]
abbrev dcV (d : Dc) : V := .agg d.A
def onD (u : Int) : Dc := ⟨1, u, ⟨false, limbs 0, limbs 0⟩⟩
theorem lx_on {u : Int} : LV Tryz.prog 68 [vl (.int .i64 u)] (dcV (onD u)) := by
  refine LX_run (m := 0) (n0 := 0) mix Tryz.func68 rfl rfl rfl rfl ?_
  conv => whnf
  exact .q ⟨rfl, rfl⟩
theorem lx_first {s : Sp} {pt : List Rat} {u : Nat} {l : List Nat} (h : openS s = u :: l) : LX Tryz.prog 31 [.a (.ptr 0 0)] (chH s pt) fun v H => v = dcV (onD u) ∧ H = chH s pt := by
  refine LX_run (m := 1) (n0 := 1) mix Tryz.func31 rfl rfl rfl rfl ?_
  conv => whnf
  refine .mk (0) ([.lit (encN u)]) (rfl) (by rw [h]; rfl) ?_
  conv => whnf
  conv => whnf
  refine .c (lx_on) ?_
  conv => whnf
  exact ⟨_, _, ⟨rfl, rfl⟩, WkV.refl _, rfl, ⟨⟨_, rfl, wke_refl _, rfl⟩, trivial⟩, rfl⟩
def gapS (s : Sp) (u : Int) : Rat := if (bestS s u).1 = 0 ∨ (bestS s u).2 = 0 then 0 else gapQ (vAt s.ls (bestS s u).1) (vAt s.ls (bestS s u).2)
theorem atL_b {ls : List Lm} (h : ∀ m ∈ ls, Bt 300000000 m.v.q) (z : Int) : Bt 300000000 (vAt ls z) := by
  unfold vAt atL
  cases hx : ls[(z - 1).toNat]? with
  | none => show Bt _ (rv false (val []) (val [])); rw [rv_zero]; exact bt0 _
  | some x => exact h x (List.mem_of_getElem? hx)
theorem Bt.gapS {s : Sp} (hs : SpOk s) (u : Int) : Bt 1200000001 (gapS s u) := by
  unfold Lf.gapS
  split
  · exact bt0 _
  · exact (atL_b hs.lb _).gap (atL_b hs.lb _)
theorem lx_cgap {s : Sp} {pt : List Rat} {u : Int} (hs : SpOk s) : LX Tryz.prog 70 [.a (.ptr 0 0), vl (.int .i64 u)] (chH s pt) fun v H => v = ratV (gapS s u) ∧ H = chH s pt := by
  have hl := hs.ll
  have hle := bestTo_le s.ls u s.ls.length
  have e : bestS s u = bestTo s.ls u s.ls.length := rfl
  rw [← e] at hle
  obtain ⟨k1, k2, k3, k4⟩ := hle
  refine LX_run (m := 1) (n0 := 1) mix Tryz.func70 rfl rfl rfl rfl ?_
  conv => whnf
  refine .c (lx_best hs) ?_
  conv => whnf
  refine bs (fun h1 => ?_) (fun h1 => ?_)
  · conv => whnf
    exact ⟨_, _, ⟨by rw [gapS, if_pos (.inl (by simpa using h1))]; exact rat0V, rfl⟩, WkV.refl _, rfl, ⟨⟨_, rfl, wke_refl _, rfl⟩, trivial⟩, rfl⟩
  · conv => whnf
    refine bs (fun h2 => ?_) (fun h2 => ?_)
    · conv => whnf
      exact ⟨_, _, ⟨by rw [gapS, if_pos (.inr (by simpa using h2))]; exact rat0V, rfl⟩, WkV.refl _, rfl, ⟨⟨_, rfl, wke_refl _, rfl⟩, trivial⟩, rfl⟩
    · conv => whnf
      have p1 := pos_of h1 k1
      have p2 := pos_of h2 k3
      refine .mk (((bestS s u).1 - 1).toNat) ((atL s.ls (bestS s u).1).D) (by rw [wr64 (by omega) (by omega)]; omega) (at_map (atL_some p1 (by omega))) ?_
      conv => whnf
      conv => whnf
      refine .mk (((bestS s u).2 - 1).toNat) ((atL s.ls (bestS s u).2).D) (by rw [wr64 (by omega) (by omega)]; omega) (at_map (atL_some p2 (by omega))) ?_
      conv => whnf
      conv => whnf
      refine .c (lx_gap (atL_sm hs.ln _) (atL_sm hs.ln _) (atL_b hs.lb _) (atL_b hs.lb _)) ?_
      conv => whnf
      refine .mk (by kernel_rfl) ?_
      conv => whnf
      exact ⟨_, _, ⟨by rw [gapS, if_neg (by omega)], rfl⟩, WkV.refl _, rfl, ⟨⟨_, rfl, wke_refl _, rfl⟩, trivial⟩, rfl⟩
def gStep (φ : Int → Rat) (a : Nat × Rat) (j : Nat) : Nat × Rat := if decide (cmpQ (φ j) a.2 > 0) = true then (j, φ j) else a
def gTo (φ : Int → Rat) (u : Nat) (l : List Nat) (i : Nat) : Nat × Rat := (l.take i).foldl (gStep φ) (u, φ u)
def gMost (φ : Int → Rat) (l : List Nat) : Nat := match l with
  | [] => 0
  | u :: l => (l.foldl (gStep φ) (u, φ u)).1
theorem gTo_succ {φ : Int → Rat} {u : Nat} {l : List Nat} {i j : Nat} (h : l[i]? = some j) : gTo φ u l (i + 1) = gStep φ (gTo φ u l i) j := by
  unfold gTo
  rw [take_snoc h, List.foldl_append]; rfl
theorem gTo_b {φ : Int → Rat} {u : Nat} {l : List Nat} (h : ∀ j, Sz (φ j)) (i : Nat) : Sz (gTo φ u l i).2 := by
  unfold gTo
  generalize l.take i = l
  have : ∀ (l : List Nat) (a : Nat × Rat), Sz a.2 → Sz (l.foldl (gStep φ) a).2 := by
    intro l
    induction l with
    | nil => intro a h; exact h
    | cons j l ih =>
      intro a ha
      refine ih _ ?_
      unfold gStep
      split
      · exact h j
      · exact ha
  exact this l _ (h u)
theorem openTo_lt (s : Sp) (k : Nat) : ∀ j ∈ openTo s k, j < k := fun j h => by
  unfold openTo at h
  exact List.mem_range.1 (List.mem_filter.1 h).1
theorem lx_greatest {s : Sp} {pt : List Rat} {F : FuncId} {φ : Int → Rat} {u : Nat} {l : List Nat} (hs : SpOk s) (ho : openS s = u :: l) (hφ : ∀ j, Sz (φ j)) (he : entT Tryz.prog F = true)
    (hF : ∀ j : Nat, j < s.q.g.us.length → LX Tryz.prog F [.a (.ptr 0 0), vl (.int .i64 j)] (chH s pt) fun v H => v = ratV (φ j) ∧ H = chH s pt) :
    LX Tryz.prog 69 [.a (.ptr 0 0), .a (.fn (.func F) [.ptr 0 0] [])] (chH s pt) fun v H => v = dcV (onD (gMost φ (openS s))) ∧ H = chH s pt := by
  have hul := hs.q.g.u1
  have hln := openS_len s
  rw [ho] at hln
  have hlt : ∀ j ∈ u :: l, j < s.q.g.us.length := fun j hj => openTo_lt s s.q.g.us.length j (by rw [show openTo s s.q.g.us.length = openS s from rfl, ho]; exact hj)
  have hll : l.length ≤ 1024 := by simp at hln; omega
  refine LX_run (m := 1) (n0 := 1) mix Tryz.func69 rfl rfl rfl rfl ?_
  conv => whnf
  refine .mk (0) ([.lit (encN u)]) (rfl) (by rw [ho]; rfl) ?_
  conv => whnf
  conv => whnf
  refine Cn.l [0] (hF u (hlt u (by simp))) ?_ he
  conv => whnf
  refine .mk 1 (openS s).length (l.map fun j => [.lit (encN j)]) rfl (by simp) (by rw [ho]; simp) (by simp) (by rw [ho]; simp [List.take_of_length_le]) ?_
  conv => whnf
  refine .mk Nat (fun i => ⟨[(25, vl (.int .i64 i)), (24, vl (.int .i64 (l.map fun j => [D.lit (encN j)]).length)), (23, .a (.d (natsD l))), (6, .a (.ptr 3 0)), (5, vl (.int .i64 (gTo φ u l i).1)), (4, .a (.ptr 1 0)), (1, .a (.fn (.func F) [.ptr 0 0] []))], [(0, .box 85 (chA s pt)), (1, .box 46 [.d (.lit (.int .i64 0)), .d (.lit (.int .i64 0)), .d (.lit (.bool false)), .d (.nat 0), .d (.nat 0)]), (3, .box 37 (can (gTo φ u l i).2).A)], 4⟩) (fun i => i ≤ l.length) (fun i => l.length - i) 0 Wk.go (Nat.zero_le _) fun i hi => ?_
  conv => whnf
  conv => whnf
  refine bs (fun h1 => ?_) (fun h1 => ?_)
  · conv => whnf
    have h1' : i < l.length := by simpa using h1
    obtain ⟨j, hj⟩ := at_some h1'
    have hjl := hlt j (List.mem_cons_of_mem _ (List.mem_of_getElem? hj))
    have hgs := gTo_succ (φ := φ) (u := u) hj
    have hgb := gTo_b (u := u) (l := l) hφ i
    generalize gTo φ u l i = a at *
    obtain ⟨b, t⟩ := a
    refine .mk (i) ([.lit (encN j)]) (rfl) (at_map hj) ?_
    conv => whnf
    conv => whnf
    refine Cn.l [0] (hF j hjl) ?_ he
    conv => whnf
    refine .c (lx_rcmp (.c (hφ j)) (.c hgb)) ?_
    conv => whnf
    refine bs (fun h2 => ?_) (fun h2 => ?_)
    · conv => whnf
      refine .mk (by kernel_rfl) ?_
      conv => whnf
      exact ⟨i + 1, by rw [hgs, gStep, if_pos h2]; exact Wk.go, h1', by omega⟩
    · conv => whnf
      exact ⟨i + 1, by rw [hgs, gStep, if_neg (by rw [h2]; exact Bool.false_ne_true)]; exact Wk.go, h1', by omega⟩
  · conv => whnf
    have e : i = l.length := by simp at h1; omega
    subst e
    refine .c (lx_on) ?_
    conv => whnf
    exact ⟨_, _, ⟨by rw [ho, gMost, gTo, List.take_length], rfl⟩, WkV.refl _, rfl, ⟨⟨_, rfl, wke_refl _, rfl⟩, trivial⟩, rfl⟩
theorem lx_widest {s : Sp} {pt : List Rat} {u : Nat} {l : List Nat} (hs : SpOk s) (ho : openS s = u :: l) :
    LX Tryz.prog 32 [.a (.ptr 0 0)] (chH s pt) fun v H => v = dcV (onD (gMost (gapS s) (openS s))) ∧ H = chH s pt := by
  refine LX_run (m := 1) (n0 := 1) mix Tryz.func32 rfl rfl rfl rfl ?_
  conv => whnf
  refine .l [0] (lx_greatest hs ho (fun j => (Bt.gapS hs j).mono (by decide)) rfl fun j _ => lx_cgap hs) ?_
  conv => whnf
  exact ⟨_, _, ⟨rfl, rfl⟩, WkV.refl _, rfl, ⟨⟨_, rfl, wke_refl _, rfl⟩, trivial⟩, rfl⟩
end Go.Proofs.YtikglhmabidjoaaGreatDoor.Lf
