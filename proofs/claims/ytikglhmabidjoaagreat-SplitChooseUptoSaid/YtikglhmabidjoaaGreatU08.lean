/- Texts LgW LgX LgY LgZ LiA LiB LiC LiD LiE LiF LiG LiH LiI LiJ LiK of this proof, in this order. -/
import Derived.Test.YtikglhmabidjoaaGreatU07
set_option linter.unusedVariables false
set_option linter.unusedSimpArgs false
set_option maxRecDepth 100000
set_option maxHeartbeats 4000000
namespace Go.Proofs.YtikglhmabidjoaaGreat.Lf
open Go.RowKit Nt
def q1 : Rat := ((1 : Int) : Rat)
theorem q1_b : Bt 0 q1 := Bt.int (by decide)
theorem q1_z : Sz q1 := q1_b.mono (by decide)
theorem lx_zofp : LV Tryz.prog 19 [vl (.int .i64 1)] (ratV q1) := lx_zof (z := 1) (by decide) (by decide)
theorem best_u (ls : List Lm) (u : Int) : ∀ i : Nat, i ≤ ls.length → ((bestTo ls u i).1 ≠ 0 → (atL ls (bestTo ls u i).1).u = u) ∧ ((bestTo ls u i).2 ≠ 0 → (atL ls (bestTo ls u i).2).u = u)
 | 0, _ => by simp [bestTo]
 | i + 1, h => by
   obtain ⟨m, hm⟩ := at_some (l := ls) (i := i) (by omega)
   obtain ⟨h1, h2⟩ := best_u ls u i (by omega)
   have ha : atL ls ((i : Int) + 1) = m := by
    unfold atL; rw [show ((i : Int) + 1 - 1).toNat = i by omega, hm]; rfl
   rw [bestTo_succ hm]
   unfold bstep
   repeat' split
   all_goals first
    | exact ⟨h1, h2⟩
    | (refine ⟨h1, fun _ => ?_⟩; rw [ha]; assumption)
    | (refine ⟨fun _ => ?_, h2⟩; rw [ha]; assumption)
def alS (s : Sp) (v : Int) : List Mu := if v < s.q.g.n then [⟨⟨1, v, 0, 0⟩, q1⟩] else [⟨⟨5, v - s.q.g.n, 0, 0⟩, q1⟩]
theorem lx_atleast {s : Sp} {v : Int} (hs : SpOk s) (hv : 0 ≤ v ∧ v ≤ 100000) : LV Tryz.prog 183 [.agg s.A, vl (.int .i64 v)] (.a (.d (musD (alS s v)))) := by
 have hn2 := hs.q.g.n2
 have hw : IntKind.i64.wrap (v - (s.q.g.n : Int)) = v - s.q.g.n := wr64 (by omega) (by omega)
 refine LX_run (m := 0) (n0 := 0) mix Tryz.func183 rfl rfl rfl rfl ?_
 conv => whnf
 refine bs (fun h1 => ?_) (fun h1 => ?_)
 ·
  conv => whnf
  have h1' : v < s.q.g.n := by simpa using h1
  refine .c (lx_zofp) ?_
  conv => whnf
  exact .s ⟨by rw [alS, if_pos h1']; rfl, rfl⟩
 ·
  conv => whnf
  have h1' : ¬ v < s.q.g.n := by simpa using h1
  refine .c (lx_zofp) ?_
  conv => whnf
  rw [hw]
  refine .mk (by kernel_rfl) ?_
  conv => whnf
  exact .s ⟨by rw [alS, if_neg h1']; rfl, rfl⟩
def amS (s : Sp) (v : Int) : List Mu × Bool :=
 if v < s.q.g.n then ([⟨⟨2, v, 0, 0⟩, q1⟩], true)
 else
  let j := v - s.q.g.n
  let b := bestS s j
  if b.1 = 0 ∨ b.2 = 0 then ([], false)
  else if (vAt s.ls b.2).num.sign ≤ 0 then ([⟨⟨10, j, 0, b.2⟩, q1⟩], true)
  else if (vAt s.ls b.1).num.sign ≥ 0 then ([⟨⟨8, j, b.1, 0⟩, q1⟩, ⟨⟨12, j, 0, b.2⟩, q1⟩], true)
  else ([⟨⟨12, j, 0, b.2⟩, q1 / (vAt s.ls b.2 - vAt s.ls b.1) * vAt s.ls b.2⟩, ⟨⟨13, j, b.1, b.2⟩, q1 / (vAt s.ls b.2 - vAt s.ls b.1)⟩], true)
theorem lx_atmost {s : Sp} {v : Int} (hs : SpOk s) (hv : 0 ≤ v ∧ v ≤ 100000) : LV Tryz.prog 182 [.agg s.A, vl (.int .i64 v)] (.tup [.s (.d (musD (amS s v).1)), .s (.d (.lit (.bool (amS s v).2)))]) := by
 have hn2 := hs.q.g.n2; have hl := hs.ll
 have hw : IntKind.i64.wrap (v - (s.q.g.n : Int)) = v - s.q.g.n := wr64 (by omega) (by omega)
 have hle := bestTo_le s.ls (v - s.q.g.n) s.ls.length
 have e : bestS s (v - s.q.g.n) = bestTo s.ls (v - s.q.g.n) s.ls.length := rfl
 rw [← e] at hle
 obtain ⟨k1, k2, k3, k4⟩ := hle
 refine LX_run (m := 0) (n0 := 0) mix Tryz.func182 rfl rfl rfl rfl ?_
 conv => whnf
 refine .c (lx_zofp) ?_
 conv => whnf
 refine bs (fun h1 => ?_) (fun h1 => ?_)
 ·
  conv => whnf
  have h1' : v < s.q.g.n := by simpa using h1
  exact .s ⟨by rw [amS, if_pos h1']; rfl, rfl⟩
 ·
  conv => whnf
  have h1' : ¬ v < s.q.g.n := by simpa using h1
  rw [hw]
  refine .c (lx_zbest hs) ?_
  conv => whnf
  have hS : amS s v = (if (bestS s (v - s.q.g.n)).1 = 0 ∨ (bestS s (v - s.q.g.n)).2 = 0 then ([], false)
   else if (vAt s.ls (bestS s (v - s.q.g.n)).2).num.sign ≤ 0 then ([⟨⟨10, (v - s.q.g.n), 0, (bestS s (v - s.q.g.n)).2⟩, q1⟩], true)
   else if (vAt s.ls (bestS s (v - s.q.g.n)).1).num.sign ≥ 0 then ([⟨⟨8, (v - s.q.g.n), (bestS s (v - s.q.g.n)).1, 0⟩, q1⟩, ⟨⟨12, (v - s.q.g.n), 0, (bestS s (v - s.q.g.n)).2⟩, q1⟩], true)
   else ([⟨⟨12, (v - s.q.g.n), 0, (bestS s (v - s.q.g.n)).2⟩, q1 / (vAt s.ls (bestS s (v - s.q.g.n)).2 - vAt s.ls (bestS s (v - s.q.g.n)).1) * vAt s.ls (bestS s (v - s.q.g.n)).2⟩, ⟨⟨13, (v - s.q.g.n), (bestS s (v - s.q.g.n)).1, (bestS s (v - s.q.g.n)).2⟩, q1 / (vAt s.ls (bestS s (v - s.q.g.n)).2 - vAt s.ls (bestS s (v - s.q.g.n)).1)⟩], true)) := by rw [amS, if_neg h1']
  generalize (bestS s (v - s.q.g.n)).1 = lo at *
  generalize (bestS s (v - s.q.g.n)).2 = hi at *
  have bl := atL_b hs.lb lo
  have bh := atL_b hs.lb hi
  have sl := atL_sm hs.ln lo
  have sh := atL_sm hs.ln hi
  have nilR : ∀ z : List Mu × Bool, z = ([], false) → All2 WkW [W.s (.d (.lit (.slice none 0 0))), W.s (.d (.lit (.bool false)))] [W.s (.d (musD z.1)), W.s (.d (.lit (.bool z.2)))] := fun z hz => by
   rw [hz]; exact ⟨WkA.nil, aR_ _, trivial⟩
  refine bs (fun h2 => ?_) (fun h2 => ?_)
  ·
   conv => whnf
   exact .mk _ [] ⟨rfl, rfl⟩ (WkV.tup (nilR _ (by rw [hS, if_pos (.inl (by simpa using h2))]))) rfl trivial rfl
  ·
   conv => whnf
   refine bs (fun h3 => ?_) (fun h3 => ?_)
   ·
    conv => whnf
    exact .mk _ [] ⟨rfl, rfl⟩ (WkV.tup (nilR _ (by rw [hS, if_pos (.inr (by simpa using h3))]))) rfl trivial rfl
   ·
    conv => whnf
    have p1 := pos_of h2 k1
    have p2 := pos_of h3 k3
    rw [if_neg (by omega)] at hS
    refine .mk ((lo - 1).toNat) ((atL s.ls lo).D) (by rw [wr64 (by omega) (by omega)]; omega) (at_map (atL_some p1 (by omega))) ?_
    conv => whnf
    conv => whnf
    refine .mk ((hi - 1).toNat) ((atL s.ls hi).D) (by rw [wr64 (by omega) (by omega)]; omega) (at_map (atL_some p2 (by omega))) ?_
    conv => whnf
    conv => whnf
    refine .mk (by kernel_rfl) ?_
    conv => whnf
    refine .c (lx_zsign sh.rq) ?_
    conv => whnf
    refine bs (fun h4 => ?_) (fun h4 => ?_)
    ·
     conv => whnf
     rw [if_pos (by simpa using h4)] at hS
     exact .s ⟨by rw [hS]; rfl, rfl⟩
    ·
     conv => whnf
     rw [if_neg (by simpa using h4)] at hS
     refine .c (lx_zsign sl.rq) ?_
     conv => whnf
     refine bs (fun h5 => ?_) (fun h5 => ?_)
     ·
      conv => whnf
      rw [if_pos (by simpa using h5)] at hS
      exact .s ⟨by rw [hS]; rfl, rfl⟩
     ·
      conv => whnf
      rw [if_neg (by simpa using h5)] at hS
      have hne : vAt s.ls hi - vAt s.ls lo ≠ 0 := by
       have a1 : ¬ (vAt s.ls hi).num.sign ≤ 0 := of_decide_eq_false h4
       have a2 : ¬ (vAt s.ls lo).num.sign ≥ 0 := of_decide_eq_false h5
       have a3 : 0 < vAt s.ls hi := of_decide_eq_true (by rw [← sg_gt]; exact decide_eq_true (by omega))
       have a4 : vAt s.ls lo < 0 := of_decide_eq_true (by rw [← sg_lt]; exact decide_eq_true (by omega))
       grind
      have bd := (q1_b.div (bh.sub bl) hne)
      refine .c (lx_zsub sh.rq sl.rq) ?_
      conv => whnf
      refine .c (lx_zdiv hne (.c q1_z) (.c ((bh.sub bl).mono (by decide)))) ?_
      conv => whnf
      refine .mk (by kernel_rfl) ?_
      conv => whnf
      refine .c (lx_zmul (.c (bd.mono (by decide))) sh.rq) ?_
      conv => whnf
      refine .mk (by kernel_rfl) ?_
      conv => whnf
      exact .s ⟨by rw [hS]; rfl, rfl⟩
def rabs (q : Rat) : Rat := if q < 0 then -q else q
theorem rabs_A (q : Rat) : V.agg [A.d (.lit (.bool false)), .d (.lm (limbs q.num.natAbs)), .d (.lm (limbs (dn q)))] = .agg (can (rabs q)).A := by
 have h1 : decide (rabs q < 0) = false := decide_eq_false (by unfold rabs; split <;> grind)
 have h2 : (rabs q).num.natAbs = q.num.natAbs := by
  unfold rabs; split
  ·
   rw [Rat.neg_num, Int.natAbs_neg]
  ·
   rfl
 have h3 : dn (rabs q) = dn q := by unfold rabs dn; split <;> simp [Rat.neg_den]
 show _ = V.agg [.d (.lit (.bool (decide (rabs q < 0)))), .d (.lm (limbs (rabs q).num.natAbs)), .d (.lm (limbs (dn (rabs q))))]
 rw [h1, h2, h3]
theorem Bt.rabs {k : Nat} {q : Rat} (h : Bt k q) : Bt k (rabs q) := by
 unfold Lf.rabs; split
 ·
  exact h.neg
 ·
  exact h
theorem wsum_b {kc kf : Nat} {φ : Ro → Rat} : ∀ {l : List Mu}, MuB kc l → (∀ m ∈ l, Bt kf (φ m.r)) → Bt (l.length * (kc + kf + 1)) (wsum φ l)
 | [], _, _ => bt0 _
 | m :: l, h, h2 => by
   have h3 := ((h m (by simp)).mul (h2 m (by simp))).add (wsum_b (l := l) (fun m hm => h m (by simp [hm])) fun m hm => h2 m (by simp [hm]))
   exact h3.mono (by rw [List.length_cons, Nat.add_mul, Nat.one_mul]; omega)
def LsB (s : Sp) (J B : Nat) : Prop := ∀ m ∈ s.ls, 0 ≤ m.u → m.u < J → Bt B m.v.q
theorem atL_mem {ls : List Lm} {z : Int} (h : 0 < z) (h2 : z ≤ ls.length) : atL ls z ∈ ls := mG_ (atL_some h h2)
theorem lmV_b {s : Sp} {J B : Nat} {n u : Int} {up : Bool} (h : LsB s J B) (h0 : 0 ≤ u) (h1 : u < J) : Bt B (lmV s n u up) := by
 unfold lmV
 cases ho : lmOk s n u up with
 | false => exact bt0 _
 | true =>
   simp only [lmOk, Bool.and_eq_true, decide_eq_true_eq] at ho
   obtain ⟨⟨⟨a, b⟩, c⟩, d⟩ := ho
   exact h _ (atL_mem (by omega) b) (by omega) (by omega)
theorem best_b {s : Sp} {J B : Nat} {u : Int} (h : LsB s J B) (h0 : 0 ≤ u) (h1 : u < J) : ((bestS s u).1 ≠ 0 → Bt B (vAt s.ls (bestS s u).1)) ∧ ((bestS s u).2 ≠ 0 → Bt B (vAt s.ls (bestS s u).2)) := by
 have hle := bestTo_le s.ls u s.ls.length
 have hu := best_u s.ls u s.ls.length (lR_ _)
 have e : bestS s u = bestTo s.ls u s.ls.length := rfl
 rw [← e] at hle hu
 obtain ⟨k1, k2, k3, k4⟩ := hle
 exact ⟨fun hn => h _ (atL_mem (by omega) k2) (by rw [hu.1 hn]; exact h0) (by rw [hu.1 hn]; exact h1), fun hn => h _ (atL_mem (by omega) k4) (by rw [hu.2 hn]; exact h0) (by rw [hu.2 hn]; exact h1)⟩
theorem al_ok {s : Sp} {J B : Nat} {v : Int} (hs : SpOk s) (h : LsB s J B) (hJ : J ≤ s.q.g.us.length) (h0 : 0 ≤ v) (h1 : v < s.q.g.n + J) : MuB (3 * B + 1) (alS s v) ∧ (alS s v).length ≤ 2 ∧ ∀ m ∈ alS s v, RoOk s B m.r := by
 unfold alS
 split
 ·
  refine ⟨fun m hm => ?_, by simp, fun m hm => ?_⟩
  ·
   rw [List.mem_singleton.1 hm]; exact q1_b.mono (by omega)
  ·
   rw [List.mem_singleton.1 hm]; exact .inl ⟨.inl rfl, h0, by assumption, rfl, rfl⟩
 ·
  refine ⟨fun m hm => ?_, by simp, fun m hm => ?_⟩
  ·
   rw [List.mem_singleton.1 hm]; exact q1_b.mono (by omega)
  ·
   rw [List.mem_singleton.1 hm]
   exact .inr ⟨.inl ⟨rfl, rfl, rfl⟩, by simp only; omega, by simp only; omega, by simp, by simp, lmV_b h (by simp only; omega) (by simp only; omega), lmV_b h (by simp only; omega) (by simp only; omega)⟩
theorem am_ok {s : Sp} {J B : Nat} {v : Int} (hs : SpOk s) (h : LsB s J B) (hJ : J ≤ s.q.g.us.length) (h0 : 0 ≤ v) (h1 : v < s.q.g.n + J) : MuB (3 * B + 1) (amS s v).1 ∧ (amS s v).1.length ≤ 2 ∧ ∀ m ∈ (amS s v).1, RoOk s B m.r := by
 have hl := hs.ll
 unfold amS
 split
 ·
  refine ⟨fun m hm => ?_, by simp, fun m hm => ?_⟩
  ·
   rw [List.mem_singleton.1 hm]; exact q1_b.mono (by omega)
  ·
   rw [List.mem_singleton.1 hm]; exact .inl ⟨.inr rfl, h0, by assumption, rfl, rfl⟩
 ·
  have hle := bestTo_le s.ls (v - s.q.g.n) s.ls.length
  have e : bestS s (v - s.q.g.n) = bestTo s.ls (v - s.q.g.n) s.ls.length := rfl
  rw [← e] at hle
  obtain ⟨k1, k2, k3, k4⟩ := hle
  obtain ⟨b1, b2⟩ := best_b (u := v - s.q.g.n) h (by omega) (by omega)
  have bV := fun n up => lmV_b (s := s) (n := n) (u := v - s.q.g.n) (up := up) h (by omega) (by omega)
  dsimp only
  split
  ·
   exact ⟨fun m hm => (by cases hm), by simp, fun m hm => (by cases hm)⟩
  ·
   rename_i hnz
   have p1 : 1 ≤ (bestS s (v - s.q.g.n)).1 := by omega
   have p2 : 1 ≤ (bestS s (v - s.q.g.n)).2 := by omega
   split
   ·
    refine ⟨fun m hm => ?_, by simp, fun m hm => ?_⟩
    ·
     rw [List.mem_singleton.1 hm]; exact q1_b.mono (by omega)
    ·
     rw [List.mem_singleton.1 hm]
     exact .inr ⟨.inr (.inr (.inl ⟨rfl, rfl, p2⟩)), by simp only; omega, by simp only; omega, by simp, by simp only; omega, bV _ _, bV _ _⟩
   ·
    split
    ·
     refine ⟨fun m hm => ?_, by simp, fun m hm => ?_⟩
     ·
      simp only [List.mem_cons, List.not_mem_nil, or_false] at hm
      rcases hm with rfl | rfl <;> exact q1_b.mono (by omega)
     ·
      simp only [List.mem_cons, List.not_mem_nil, or_false] at hm
      rcases hm with rfl | rfl
      ·
       exact .inr ⟨.inr (.inl ⟨rfl, p1, rfl⟩), by simp only; omega, by simp only; omega, by simp only; omega, by simp, bV _ _, bV _ _⟩
      ·
       exact .inr ⟨.inr (.inr (.inr (.inl ⟨rfl, rfl, p2⟩))), by simp only; omega, by simp only; omega, by simp, by simp only; omega, bV _ _, bV _ _⟩
    ·
     rename_i n1 n2
     have hne : vAt s.ls (bestS s (v - s.q.g.n)).2 - vAt s.ls (bestS s (v - s.q.g.n)).1 ≠ 0 := by
      have a3 : 0 < vAt s.ls (bestS s (v - s.q.g.n)).2 := of_decide_eq_true (by rw [← sg_gt]; exact decide_eq_true (by omega))
      have a4 : vAt s.ls (bestS s (v - s.q.g.n)).1 < 0 := of_decide_eq_true (by rw [← sg_lt]; exact decide_eq_true (by omega))
      grind
     have bd := q1_b.div ((b2 (by omega)).sub (b1 (by omega))) hne
     refine ⟨fun m hm => ?_, by simp, fun m hm => ?_⟩
     ·
      simp only [List.mem_cons, List.not_mem_nil, or_false] at hm
      rcases hm with rfl | rfl
      ·
       exact (bd.mul (b2 (by omega))).mono (by omega)
      ·
       exact bd.mono (by omega)
     ·
      simp only [List.mem_cons, List.not_mem_nil, or_false] at hm
      rcases hm with rfl | rfl
      ·
       exact .inr ⟨.inr (.inr (.inr (.inl ⟨rfl, rfl, p2⟩))), by simp only; omega, by simp only; omega, by simp, by simp only; omega, bV _ _, bV _ _⟩
      ·
       exact .inr ⟨.inr (.inr (.inr (.inr ⟨rfl, p1, p2⟩))), by simp only; omega, by simp only; omega, by simp only; omega, by simp only; omega, bV _ _, bV _ _⟩
theorem lx_above {s : Sp} {f : Af} {J B : Nat} (hs : SpOk s) (hq : QuB s.q) (hL : LsB s J B) (hJ2 : J < s.q.g.us.length) (hf : FB 5 (s.q.g.n + J : Nat) f) (hB : B ≤ 700000) :
  ∃ (x : Rat) (l : List Mu) (ok : Bool), Bt ((3 + J) * (14 * B + 44) + 6) x ∧ (MuB 3000000000 l ∧ l.length ≤ 1000) ∧ LV Tryz.prog 144 [.agg s.A, .agg f.A] (.tup [.g (can x).A, .s (.d (musD l)), .s (.d (.lit (.bool ok)))]) := by
 suffices hh : LX Tryz.prog 144 [.agg s.A, .agg f.A] [] fun v H => ∃ (x : Rat) (l : List Mu) (ok : Bool), (Bt ((3 + J) * (14 * B + 44) + 6) x ∧ MuB 3000000000 l ∧ l.length ≤ 1000) ∧ v = .tup [.g (can x).A, .s (.d (musD l)), .s (.d (.lit (.bool ok)))] ∧ H = [] by
  obtain ⟨v, H', ⟨x, l, ok, ⟨h1, h2⟩, rfl, rfl⟩, hc⟩ := hh
  exact ⟨x, l, ok, h1, h2, _, _, ⟨rfl, rfl⟩, hc⟩
 have hn3 := hq.g.n2; have hu4 := hq.g.u1; have hJ := Nat.le_of_lt hJ2
 have hlen := hf.ts.len (by omega)
 have hfl : f.ts.length ≤ 3 + J := by omega
 refine LX_run (m := 0) (n0 := 0) mix Tryz.func144 rfl rfl rfl rfl ?_
 conv => whnf
 refine .mk (Nat × List Mu) (fun (i, l) => ⟨[(8, vl (.int .i64 (i : Nat))), (7, .a (.d (musD l))), (4, .a (.ptr 2 0)), (3, .a (.ptr 1 0)), (2, .a (.ptr 0 0))], [(0, .box 43 s.A), (1, .box 39 f.A), (2, .box 37 [.d (.lit (.bool false)), .d (.nat 0), .d (.nat 0)])], 3⟩)
  (fun b => b.1 ≤ f.ts.length ∧ MuB (b.1 * (6 * B + 20)) b.2 ∧ b.2.length ≤ 2 * b.1 ∧ (∀ m ∈ b.2, RoOk s B m.r) ∧ Bt (b.1 * (14 * B + 44)) (wsum (fun r => (frmS s r).c) b.2)) (fun b => f.ts.length - b.1) (0, []) ?_ ⟨zL_ _, fun m hm => (by cases hm), by simp, fun m hm => (by cases hm), bt0 _⟩ fun ⟨i, l⟩ hb => ?_
 ·
  exact Wk.of ⟨⟨_, rfl, vR_ _, rfl⟩, ⟨_, rfl, WkV.of WkA.nil, rfl⟩, ⟨_, rfl, vR_ _, rfl⟩, ⟨_, rfl, vR_ _, rfl⟩, ⟨_, rfl, vR_ _, rfl⟩, trivial⟩ ⟨⟨_, rfl, wke_refl _, rfl⟩, ⟨_, rfl, wke_refl _, rfl⟩, ⟨_, rfl, wke_refl _, rfl⟩, trivial⟩ rfl
 obtain ⟨hi, hK, hln, hrw, hws⟩ := hb
 simp only at hi hK hln hrw hws
 conv => whnf
 refine bs (fun h1 => ?_) (fun h1 => ?_)
 ·
  conv => whnf
  have h1' : i < f.ts.length := by simpa using h1
  obtain ⟨t, ht⟩ := at_some h1'
  obtain ⟨t1, t2, t3, t4⟩ := hf.tm t (mG_ ht)
  obtain ⟨a1, a2, a3⟩ := am_ok hs hL hJ t1 (by omega)
  obtain ⟨a4, a5, a6⟩ := al_ok hs hL hJ t1 (by omega)
  have hi7 : i ≤ 6 := by omega
  have key : ∀ b : List Mu, MuB (3 * B + 1) b → b.length ≤ 2 → (∀ m ∈ b, RoOk s B m.r) → LV Tryz.prog 184 [.a (.d (musD l)), .a (.d (musD b)), .agg (can (rabs t.q)).A] (.a (.d (musD (mgS l b (rabs t.q))))) ∧
    (MuB ((i + 1) * (6 * B + 20)) (mgS l b (rabs t.q)) ∧ (mgS l b (rabs t.q)).length ≤ 2 * (i + 1) ∧ (∀ m ∈ mgS l b (rabs t.q), RoOk s B m.r) ∧ Bt ((i + 1) * (14 * B + 44)) (wsum (fun r => (frmS s r).c) (mgS l b (rabs t.q)))) := fun b b1 b2 b3 => by
   have hc := t4.rabs
   have hm : b.length * (3 * B + 1 + 5 + 1) ≤ 2 * (3 * B + 1 + 5 + 1) := Nat.mul_le_mul_right _ b2
   have hi2 : i * (6 * B + 20) ≤ 6 * (6 * B + 20) := Nat.mul_le_mul_right _ hi7
   refine ⟨lx_merge hK b1 hc (by omega) (by omega), ?_, ?_, mgS_rows hrw b3, ?_⟩
   ·
    exact (mgTo_b hK b1 hc b.length (lR_ _)).1.up (by rw [Nat.add_mul i 1, Nat.one_mul]; omega)
   ·
    have := (mgTo_b hK b1 hc b.length (lR_ _)).2
    rw [← mgS] at this; omega
   ·
    rw [wsum_mgS]
    have hwb := wsum_b (kf := 4 * B + 17) (φ := fun r => (frmS s r).c) b1 fun m hm => (frmS_b hq (b3 m hm)).c
    have hm2 : b.length * (3 * B + 1 + (4 * B + 17) + 1) ≤ 2 * (3 * B + 1 + (4 * B + 17) + 1) := Nat.mul_le_mul_right _ b2
    exact (hws.add (hwb.mul hc)).mono (by rw [Nat.add_mul i 1, Nat.one_mul]; omega)
  obtain ⟨c1, c2⟩ := key _ a1 a2 a3
  obtain ⟨c3, c4⟩ := key _ a4 a5 a6
  refine .mk (i) (t.D) (rfl) (at_map ht) ?_
  conv => whnf
  conv => whnf
  refine .c (lx_atmost hs (by omega)) ?_
  conv => whnf
  generalize (amS s t.v).2 = aok at *
  rw [← rabs_A] at c1 c3
  repeat' first | (refine bs (fun h => ?_) (fun h => ?_) <;> conv => whnf) | (refine Nc.mk (by kernel_rfl) ?_; conv => whnf) | (refine .c (lx_zsign (.c (t4.mono (by decide)))) ?_; conv => whnf) | (refine .c (lx_atleast hs (by omega)) ?_; conv => whnf) | (refine .c (c1) ?_; conv => whnf) | (refine .c (c3) ?_; conv => whnf)
  all_goals first
   | exact ⟨(i + 1, mgS l (alS s t.v) (rabs t.q)), Wk.of ⟨⟨_, rfl, WkV.int (wr64 (by omega) (by omega)), rfl⟩, ⟨_, rfl, vR_ _, rfl⟩, ⟨_, rfl, vR_ _, rfl⟩, ⟨_, rfl, vR_ _, rfl⟩, ⟨_, rfl, vR_ _, rfl⟩, trivial⟩ ⟨⟨_, rfl, wke_refl _, rfl⟩, ⟨_, rfl, wke_refl _, rfl⟩, ⟨_, rfl, wke_refl _, rfl⟩, trivial⟩ rfl, ⟨h1', c4⟩, by simp only; omega⟩
   | exact ⟨(i + 1, mgS l (amS s t.v).1 (rabs t.q)), Wk.of ⟨⟨_, rfl, WkV.int (wr64 (by omega) (by omega)), rfl⟩, ⟨_, rfl, vR_ _, rfl⟩, ⟨_, rfl, vR_ _, rfl⟩, ⟨_, rfl, vR_ _, rfl⟩, ⟨_, rfl, vR_ _, rfl⟩, trivial⟩ ⟨⟨_, rfl, wke_refl _, rfl⟩, ⟨_, rfl, wke_refl _, rfl⟩, ⟨_, rfl, wke_refl _, rfl⟩, trivial⟩ rfl, ⟨h1', c2⟩, by simp only; omega⟩
   | exact .mk _ [] ⟨0, [], false, ⟨bt0 _, fun m hm => (by cases hm), by simp⟩, rfl, rfl⟩ (WkV.tup ⟨by show All2 WkA _ (can 0).A; rw [can0]; exact ⟨aR_ _, aR_ _, aR_ _, trivial⟩, WkA.nil, aR_ _, trivial⟩) rfl trivial rfl
 ·
  conv => whnf
  have e : i = f.ts.length := by simp at h1; omega
  have hi6 : i ≤ 6 := by omega
  have hi2 : i * (6 * B + 20) ≤ 6 * (6 * B + 20) := Nat.mul_le_mul_right _ hi6
  have hmul : (l.length + 1) * (4 * B + 17 + i * (6 * B + 20) + 1) ≤ 13 * 40000000 := Nat.mul_le_mul (by omega) (by omega)
  have hmul2 : l.length * (4 * B + 17 + i * (6 * B + 20) + 1) ≤ 13 * 40000000 := Nat.mul_le_mul (by omega) (by omega)
  obtain ⟨g, er, g1, g2, g3⟩ := lx_sum (K := 0) (s := s) (φ := fun r => (frmS s r).c) (n := s.q.g.n + s.q.g.us.length) (kf := 4 * B + 17) hK (by omega) (by omega) (by omega) fun m hm => by
   obtain ⟨ok, hc⟩ := lx_rform hs hq (hrw m hm) (by omega)
   cases ok
   ·
    exact ⟨numS 0, false, FB.z _ _, fun h => Bool.noConfusion h, hc⟩
   ·
    exact ⟨frmS s m.r, true, frmS_b hq (hrw m hm), fun _ => rfl, hc⟩
  have fw := hf.up (n' := ((s.q.g.n + s.q.g.us.length : Nat) : Int)) (lR_ 5) (by omega)
  have hgc : Bt ((3 + J) * (14 * B + 44)) g.c := by
   rcases g2 with h | h
   ·
    rw [h]; exact hws.mono (Nat.mul_le_mul_right _ (by omega))
   ·
    rw [h]; exact bt0 _
  refine .c (g3) ?_
  conv => whnf
  refine .c (lx_sub fw g1 (by omega) (by omega) (by omega)) ?_
  conv => whnf
  exact .q ⟨(subS f g).c, l, true, ⟨(hf.c.add (hgc.mul m1_b)).mono (by omega), hK.up (by omega), by omega⟩, rfl, rfl⟩
def beta (j : Nat) : Nat := if j = 0 then 150 else if j = 1 then 9000 else if j = 2 then 700000 else 150000000
def LmsOk (J : Nat) (ls : List Lm) : Prop := ∀ m ∈ ls, 0 ≤ m.u ∧ m.u < J ∧ (∃ q, m.v = can q ∧ Bt (beta m.u.toNat) q) ∧ ∃ mus : List Mu, m.pf = mus.map Mu.D ∧ MuB 3000000000 mus ∧ mus.length ≤ 1000
theorem beta_le (j : Nat) : beta j ≤ 150000000 := by
 unfold beta
 repeat' split
 all_goals decide
theorem beta_mono {i j : Nat} (h : i ≤ j) : beta i ≤ beta j := by
 unfold beta
 repeat' split
 all_goals omega
theorem LmsOk.lsB {J B : Nat} {s : Sp} (h : LmsOk J s.ls) (K : Nat) (hB : ∀ i, i < K → beta i ≤ B) : LsB s K B := fun m hm h0 h1 => by
 obtain ⟨_, _, ⟨q, e, hq⟩, _⟩ := h m hm
 rw [e, can_q]; exact hq.mono (hB _ (by omega))
theorem LmsOk.sp {J : Nat} {q : Qu} {P : List Dc} {ls : List Lm} (hq : QuB q) (hp : P.length ≤ 1000000) (hs : ∀ d ∈ P, d.at_.sm) (hb : ∀ d ∈ P, Bt 300000000 d.at_.q) (h : LmsOk J ls) (hl : ls.length ≤ 1000000) : SpOk ⟨q, P, ls⟩ :=
 ⟨hq.ok, hp, hs, hl, fun m hm => by
   obtain ⟨_, _, ⟨x, e, hx⟩, _⟩ := h m hm
   rw [e]; exact Sz.sm (hx.mono (tL_ (beta_le _) (by decide))),
  fun x hx => (hq.r.sl x hx).mono (by decide), fun x hx => (hq.r.sh x hx).mono (by decide), hb, fun m hm => by
   obtain ⟨_, _, ⟨x, e, hx⟩, _⟩ := h m hm
   rw [e, can_q]; exact hx.mono (tL_ (beta_le _) (by decide))⟩
theorem LmsOk.snoc {J : Nat} {ls : List Lm} {up : Bool} {x : Rat} {mus : List Mu} (h : LmsOk J ls) {j : Nat} (hj : j < J) (hx : Bt (beta j) x) (hm : MuB 3000000000 mus ∧ mus.length ≤ 1000) : LmsOk J (ls ++ [⟨j, up, can x, mus.map Mu.D⟩]) := fun m hmm => by
 rcases List.mem_append.1 hmm with h1 | h1
 ·
  exact h m h1
 ·
  rw [List.mem_singleton.1 h1]
  exact ⟨by simp, by simp; omega, ⟨x, rfl, by simpa using hx⟩, mus, rfl, hm⟩
theorem LmsOk.up {J K : Nat} {ls : List Lm} (h : LmsOk J ls) (hk : J ≤ K) : LmsOk K ls := fun m hm => let ⟨a, b, c⟩ := h m hm; ⟨a, by omega, c⟩
theorem above_beta {J : Nat} (hJ : J ≤ 3) : ∃ B, B ≤ 700000 ∧ (∀ i, i < J → beta i ≤ B) ∧ (3 + J) * (14 * B + 44) + 6 ≤ beta J := by
 obtain rfl | rfl | rfl | rfl : J = 0 ∨ J = 1 ∨ J = 2 ∨ J = 3 := by omega
 ·
  exact ⟨0, by omega, fun i h => by omega, by decide⟩
 ·
  exact ⟨150, by omega, fun i h => by obtain rfl : i = 0 := by omega
                                      decide, by decide⟩
 ·
  exact ⟨9000, by omega, fun i h => tL_ (beta_mono (show i ≤ 1 by omega)) (by decide), by decide⟩
 ·
  exact ⟨700000, by omega, fun i h => tL_ (beta_mono (show i ≤ 2 by omega)) (by decide), by decide⟩
theorem lx_bounded {q : Qu} {P : List Dc} (hq : QuB q) (hp : P.length ≤ 1000000) (hs : ∀ d ∈ P, d.at_.sm) (hb : ∀ d ∈ P, Bt 300000000 d.at_.q) :
  ∃ ls, LmsOk q.g.us.length ls ∧ ls.length ≤ 8 ∧ LV Tryz.prog 100 [.agg (Sp.A ⟨q, P, []⟩)] (.agg (Sp.A ⟨q, P, ls⟩)) := by
 suffices hh : LX Tryz.prog 100 [.agg (Sp.A ⟨q, P, []⟩)] [] fun v H => ∃ ls, (LmsOk q.g.us.length ls ∧ ls.length ≤ 8) ∧ v = .agg (Sp.A ⟨q, P, ls⟩) ∧ H = [] by
  obtain ⟨v, H', ⟨ls, ⟨h1, h2⟩, rfl, rfl⟩, hc⟩ := hh
  exact ⟨ls, h1, h2, _, _, ⟨rfl, rfl⟩, hc⟩
 have hu4 := hq.g.u1
 refine LX_run (m := 0) (n0 := 0) mix Tryz.func100 rfl rfl rfl rfl ?_
 conv => whnf
 refine .mk [] rfl rfl (by decide) ?_
 conv => whnf
 refine .mk (by kernel_rfl) ?_
 conv => whnf
 refine .mk (Nat × List Lm) (fun (j, ls) => ⟨[(4, vl (.int .i64 (j : Nat))), (3, .a (.ptr 4 0)), (2, .a (.ptr 1 0)), (1, .a (.ptr 0 0))], [(0, .box 43 (Sp.A ⟨q, P, []⟩)), (1, .box 43 [.d (.lit (.int .i64 0)), .d (.lit (.slice none 0 0)), .d (.lit (.slice none 0 0)), .d (.lit (.slice none 0 0)), .d (.lit (.slice none 0 0)), .d (.lit (.slice none 0 0)), .d (.lit (.slice none 0 0)), .d (.lit (.bool false)), .d (.nat 0), .d (.nat 0), .d (.lit (.slice none 0 0)), .d (.lit (.slice none 0 0))]), (4, .box 43 (q.A ++ [.d (dcsD P), .own 2 6 (ls.map Lm.D)])), (2, .arr 69 6 (ls.map Lm.D).length)], 5⟩)
  (fun b => b.1 ≤ q.g.us.length ∧ LmsOk b.1 b.2 ∧ b.2.length ≤ 2 * b.1) (fun b => q.g.us.length - b.1) (0, []) Wk.go ⟨zL_ _, fun m hm => (by cases hm), by simp⟩ fun ⟨j, ls⟩ hb => ?_
 obtain ⟨hj, hlm, hln⟩ := hb
 simp only at hj hlm hln
 conv => whnf
 refine bs (fun h1 => ?_) (fun h1 => ?_)
 ·
  conv => whnf
  have h1' : j < q.g.us.length := by simpa using h1
  obtain ⟨p, hpj⟩ := at_some h1'
  have hf := hq.g.us j p hpj
  have hsp := LmsOk.sp hq hp hs hb hlm (by omega)
  obtain ⟨B, b1, b2, b3⟩ := above_beta (J := j) (by omega)
  obtain ⟨x, l1, ok1, x1, w1, c1⟩ := lx_above (s := ⟨q, P, ls⟩) hsp hq (hlm.lsB j b2) h1' hf b1
  obtain ⟨y, l2, ok2, y1, w2, c2⟩ := lx_above (s := ⟨q, P, ls⟩) hsp hq (hlm.lsB j b2) h1' (hf.scale m1_b) b1
  have hx1 : Bt (beta j) x := x1.mono b3
  have hy1 : Bt (beta j) (-y) := (y1.mono b3).neg
  have yz : Sz y := (y1.mono b3).mono (tL_ (beta_le _) (by decide))
  have hup : LmsOk (j + 1) ls := hlm.up (by omega)
  cases ok1 <;> cases ok2
  all_goals refine .mk (j) (p.D) (rfl) (at_map hpj) ?_
            conv => whnf
  all_goals conv => whnf
  all_goals refine .c (c1) ?_
            conv => whnf
  all_goals refine .c (lx_zofm) ?_
            conv => whnf
  all_goals refine .c (lx_scale hf m1_b (by omega) (by have := hq.g.n2; omega) (by omega)) ?_
            conv => whnf
  all_goals refine .c (c2) ?_
            conv => whnf
  all_goals refine .mk (by kernel_rfl) ?_
            conv => whnf
  ·
   exact ⟨(j + 1, ls), Wk.go, ⟨h1', hup, by simp only; omega⟩, by simp only; omega⟩
  ·
   refine .c (lx_zneg (.c yz)) ?_
   conv => whnf
   refine .mk ((ls ++ [(⟨j, true, can (-y), l2.map Mu.D⟩ : Lm)]).map Lm.D) rfl (by rw [List.map_append]; rfl) (by simp; omega) ?_
   conv => whnf
   refine .mk (by kernel_rfl) ?_
   conv => whnf
   exact ⟨(j + 1, ls ++ [(⟨j, true, can (-y), l2.map Mu.D⟩ : Lm)]), Wk.go, ⟨h1', hup.snoc (Nat.lt_succ_self j) hy1 w2, by simp; omega⟩, by simp only; omega⟩
  ·
   refine .mk ((ls ++ [(⟨j, false, can x, l1.map Mu.D⟩ : Lm)]).map Lm.D) rfl (by rw [List.map_append]; rfl) (by simp; omega) ?_
   conv => whnf
   exact ⟨(j + 1, ls ++ [(⟨j, false, can x, l1.map Mu.D⟩ : Lm)]), Wk.go, ⟨h1', hup.snoc (Nat.lt_succ_self j) hx1 w1, by simp; omega⟩, by simp only; omega⟩
  ·
   refine .mk ((ls ++ [(⟨j, false, can x, l1.map Mu.D⟩ : Lm)]).map Lm.D) rfl (by rw [List.map_append]; rfl) (by simp; omega) ?_
   conv => whnf
   refine .c (lx_zneg (.c yz)) ?_
   conv => whnf
   refine .mk ((ls ++ [(⟨j, false, can x, l1.map Mu.D⟩ : Lm)] ++ [(⟨j, true, can (-y), l2.map Mu.D⟩ : Lm)]).map Lm.D) rfl (by rw [List.map_append (l₁ := ls ++ _)]; rfl) (by simp; omega) ?_
   conv => whnf
   refine .mk (by kernel_rfl) ?_
   conv => whnf
   exact ⟨(j + 1, ls ++ [(⟨j, false, can x, l1.map Mu.D⟩ : Lm)] ++ [(⟨j, true, can (-y), l2.map Mu.D⟩ : Lm)]), Wk.go, ⟨h1', (hup.snoc (Nat.lt_succ_self j) hx1 w1).snoc (Nat.lt_succ_self j) hy1 w2, by simp; omega⟩, by simp only; omega⟩
 ·
  conv => whnf
  have e : j = q.g.us.length := by simp at h1; omega
  subst e
  exact .s ⟨ls, ⟨hlm, by omega⟩, rfl, rfl⟩
structure PartI (q : Qu) (P : List Dc) : Prop where
 fit : ∀ d ∈ P, fitB q d = true
 sm : ∀ d ∈ P, d.at_.sm
 bt : ∀ d ∈ P, Bt 5 d.at_.q
 tw : twB P = false
theorem PartI.sp {q : Qu} {P : List Dc} (hq : QuB q) (h : PartI q P) (hl : P.length ≤ 1000) : SpOk ⟨q, P, []⟩ :=
 LmsOk.sp (J := 0) hq (by omega) h.sm (fun d hd => (h.bt d hd).mono (by decide)) (fun m hm => by cases hm) (by simp)
theorem ne_of_beq_false {n : Nat} (h : (((n : Int) == 0)) = false) : n ≠ 0 := by
 intro e; subst e; simp at h
theorem dec_seen {s : Sp} {u : Int} (h1 : decB s 1 u = false) (h2 : decB s 2 u = false) (hf : ∀ d ∈ s.path, fitB s.q d = true) : seenB s.path u = false := by
 rw [decB, List.any_eq_false] at h1 h2
 rw [seenB, List.any_eq_false]
 intro d hd
 have f := hf d hd
 have q1 := h1 d hd
 have q2 := h2 d hd
 simp only [isD, f, Bool.and_true] at q1 q2
 simp only [isU, Bool.and_eq_true, decide_eq_true_eq, beq_iff_eq] at q1 q2 ⊢
 intro ⟨a, b⟩
 rcases a with a | a
 ·
  exact q1 ⟨a, b⟩
 ·
  exact q2 ⟨a, b⟩
theorem PartI.snoc {q : Qu} {P : List Dc} {d : Dc} (h : PartI q P) (hf : fitB q d = true) (hs : d.at_.sm) (hb : Bt 5 d.at_.q) (ht : isU d = true → seenB P d.i = false) : PartI q (P ++ [d]) := by
 refine ⟨fun x hx => ?_, fun x hx => ?_, fun x hx => ?_, ?_⟩
 ·
  rcases List.mem_append.1 hx with h5 | h5
  ·
   exact h.fit x h5
  ·
   rw [List.mem_singleton.1 h5]; exact hf
 ·
  rcases List.mem_append.1 hx with h5 | h5
  ·
   exact h.sm x h5
  ·
   rw [List.mem_singleton.1 h5]; exact hs
 ·
  rcases List.mem_append.1 hx with h5 | h5
  ·
   exact h.bt x h5
  ·
   rw [List.mem_singleton.1 h5]; exact hb
 ·
  rw [twB_snoc, h.tw]
  cases hu : isU d with
  | true => rw [ht hu]; rfl
  | false => rfl
theorem lx_part {raw : List Nat} (h : RawOk raw) : ∃ (q : Qu) (P : List Dc), QuB q ∧ PartI q P ∧ P.length ≤ 3 ∧ LV Tryz.prog 99 [.a (.d (bysD raw))] (.agg (Sp.A ⟨q, P, []⟩)) := by
 suffices hh : LX Tryz.prog 99 [.a (.d (bysD raw))] [] fun v H => ∃ (q : Qu) (P : List Dc), (QuB q ∧ PartI q P ∧ P.length ≤ 3) ∧ v = .agg (Sp.A ⟨q, P, []⟩) ∧ H = [] by
  obtain ⟨v, H', ⟨q, P, ⟨h1, h2, h3⟩, rfl, rfl⟩, hc⟩ := hh
  exact ⟨q, P, h1, h2, h3, _, _, ⟨rfl, rfl⟩, hc⟩
 obtain ⟨a1, q, k1, hq, c1⟩ := lx_query h (zL_ _)
 obtain ⟨a2, m, k2, k3, c2⟩ := lx_next (n := 4) h k1 (by omega)
 refine LX_run (m := 0) (n0 := 0) mix Tryz.func99 rfl rfl rfl rfl ?_
 conv => whnf
 refine .l [] (lx_new h) ?_
 conv => whnf
 refine .l [1] (c1) ?_
 conv => whnf
 refine .l [1] (c2) ?_
 conv => whnf
 refine .mk (Nat × Nat × List Dc) (fun (k, a, P) => ⟨[(5, vl (.int .i64 (k : Nat))), (4, .a (.ptr 3 0)), (3, .a (.ptr 1 0)), (2, .a (.ptr 0 0))], [(0, .box 43 [.d (.lit (.int .i64 0)), .d (.lit (.slice none 0 0)), .d (.lit (.slice none 0 0)), .d (.lit (.slice none 0 0)), .d (.lit (.slice none 0 0)), .d (.lit (.slice none 0 0)), .d (.lit (.slice none 0 0)), .d (.lit (.bool false)), .d (.nat 0), .d (.nat 0), .d (.lit (.slice none 0 0)), .d (.lit (.slice none 0 0))]), (1, .box 194 [.d (bysD raw), .d (.lit (.int .i64 (a : Nat)))]), (3, .box 43 (q.A ++ [.own 4 5 (P.map Dc.D), .d (.lit (.slice none 0 0))])), (4, .arr 59 5 (P.map Dc.D).length)], 5⟩)
  (fun b => b.1 + b.2.2.length ≤ 3 ∧ b.2.1 ≤ raw.length ∧ PartI q b.2.2) (fun b => b.1) (m, a2, []) (Wk.trans (Wk.ownB 3 4 10 59 5 rfl rfl rfl) Wk.go) ⟨by simp; omega, k2, ⟨fun d h => (by cases h), fun d h => (by cases h), fun d h => (by cases h), rfl⟩⟩ fun ⟨k, a, P⟩ hb => ?_
 obtain ⟨hk, ha, hP⟩ := hb
 simp only at hk ha hP
 conv => whnf
 refine bs (fun h1 => ?_) (fun h1 => ?_)
 ·
  conv => whnf
  have h1' : 0 < k := by simpa using h1
  obtain ⟨a3, m3, q1, q2, c3⟩ := lx_next (n := 4) h ha (by omega)
  have hw : IntKind.i64.wrap (1 + (m3 : Int)) = (m3 : Int) + 1 := by rw [wr64 (by omega) (by omega)]; omega
  have hwk : IntKind.i64.wrap ((k : Int) - 1) = ((k - 1 : Nat) : Int) := by rw [wr64 (by omega) (by omega)]; omega
  refine .l [1] (c3) ?_
  conv => whnf
  rw [hw]
  obtain hu | hi : m3 ≤ 1 ∨ 2 ≤ m3 := by omega
  ·
   have hk3 : ((m3 : Int) + 1 == 3) = false := by simp; omega
   have hk4 : ((m3 : Int) + 1 == 4) = false := by simp; omega
   refine bF (hk3) ?_
   conv => whnf
   refine bF (hk4) ?_
   conv => whnf
   refine bs (fun h2 => ?_) (fun h2 => ?_)
   ·
    conv => whnf
    rw [hwk]
    exact ⟨(k - 1, a3, P), Wk.go, ⟨(show k - 1 + P.length ≤ 3 by omega), q1, hP⟩, (show k - 1 < k by omega)⟩
   ·
    conv => whnf
    have hul : 1 ≤ q.g.us.length := by
     rw [List.length_map] at h2
     have := ne_of_beq_false h2
     omega
    have hu4 := hq.g.u1
    obtain ⟨a4, u, q3, q4, c4⟩ := lx_next (n := q.g.us.length) h q1 (by omega)
    have cd : ∀ k : Int, LV Tryz.prog 109 [.agg (q.A ++ [.d (dcsD P), .d (.lit (.slice none 0 0))]), vl (.int .i64 k), vl (.int .i64 (u : Nat))] (vl (.bool (decB ⟨q, P, []⟩ k u))) := fun k =>
     (lx_zdecided (hP.sp hq (by omega))).wk ⟨WkV.agg ⟨aR_ _, aR_ _, aR_ _, aR_ _, aR_ _, aR_ _, aR_ _, aR_ _, aR_ _, aR_ _, aR_ _, WkA.nil, trivial⟩, vR_ _, vR_ _, trivial⟩
    rw [List.length_map]
    refine .l [1] (c4) ?_
    conv => whnf
    refine .c (cd 1) ?_
    conv => whnf
    refine bs (fun d1 => ?_) (fun d1 => ?_)
    ·
     conv => whnf
     rw [hwk]
     exact ⟨(k - 1, a4, P), Wk.go, ⟨(show k - 1 + P.length ≤ 3 by omega), q3, hP⟩, (show k - 1 < k by omega)⟩
    ·
     conv => whnf
     refine .c (cd 2) ?_
     conv => whnf
     refine bs (fun d2 => ?_) (fun d2 => ?_)
     ·
      conv => whnf
      rw [hwk]
      exact ⟨(k - 1, a4, P), Wk.go, ⟨(show k - 1 + P.length ≤ 3 by omega), q3, hP⟩, (show k - 1 < k by omega)⟩
     ·
      conv => whnf
      have hse := dec_seen d1 d2 hP.fit
      refine .mk ((P ++ [(⟨(m3 : Int) + 1, (u : Int), ⟨false, limbs 0, limbs 0⟩⟩ : Dc)]).map Dc.D) rfl (by rw [List.map_append]; rfl) (by simp; omega) ?_
      conv => whnf
      rw [hwk]
      have hfit : fitB q ⟨(m3 : Int) + 1, (u : Int), ⟨false, limbs 0, limbs 0⟩⟩ = true := by
       unfold fitB
       rw [if_pos (by simp only; omega), z0_zero]; simp; omega
      exact ⟨(k - 1, a4, P ++ [(⟨(m3 : Int) + 1, (u : Int), ⟨false, limbs 0, limbs 0⟩⟩ : Dc)]), Wk.go, ⟨(show k - 1 + (P ++ [_]).length ≤ 3 by simp; omega), q3, hP.snoc hfit (on_sm u) (by rw [zero_q]; exact bt0 _) fun _ => hse⟩, (show k - 1 < k by omega)⟩
  ·
   obtain ⟨a4, u, q3, q4, c4⟩ := lx_next (n := q.g.n) h q1 (by have := hq.g.n1; have := hq.g.n2; omega)
   obtain ⟨a5, x, q5, q6, c5⟩ := lx_number h q3
   obtain rfl | rfl : m3 = 2 ∨ m3 = 3 := by omega
   all_goals refine .l [1] (c4) ?_
             conv => whnf
   all_goals refine .l [1] (c5) ?_
             conv => whnf
   ·
    refine .mk ((P ++ [(⟨3, (u : Int), can x⟩ : Dc)]).map Dc.D) rfl (by rw [List.map_append]; rfl) (by simp; omega) ?_
    conv => whnf
    rw [hwk]
    have hfit : fitB q ⟨3, (u : Int), can x⟩ = true := by
     unfold fitB
     rw [if_neg (by simp), if_pos (by simp)]; simp [can_ok]; omega
    exact ⟨(k - 1, a5, P ++ [(⟨3, (u : Int), can x⟩ : Dc)]), Wk.go, ⟨(show k - 1 + (P ++ [_]).length ≤ 3 by simp; omega), q5, hP.snoc hfit (Sz.sm (q6.mono (by decide))) (by rw [can_q]; exact q6) fun h => by simp [isU] at h⟩, (show k - 1 < k by omega)⟩
   ·
    refine .mk ((P ++ [(⟨4, (u : Int), can x⟩ : Dc)]).map Dc.D) rfl (by rw [List.map_append]; rfl) (by simp; omega) ?_
    conv => whnf
    rw [hwk]
    have hfit : fitB q ⟨4, (u : Int), can x⟩ = true := by
     unfold fitB
     rw [if_neg (by simp), if_pos (by simp)]; simp [can_ok]; omega
    exact ⟨(k - 1, a5, P ++ [(⟨4, (u : Int), can x⟩ : Dc)]), Wk.go, ⟨(show k - 1 + (P ++ [_]).length ≤ 3 by simp; omega), q5, hP.snoc hfit (Sz.sm (q6.mono (by decide))) (by rw [can_q]; exact q6) fun h => by simp [isU] at h⟩, (show k - 1 < k by omega)⟩
 ·
  conv => whnf
  exact .mk _ [] ⟨q, P, ⟨hq, hP, by omega⟩, rfl, rfl⟩ (WkV.agg ⟨aR_ _, aR_ _, aR_ _, aR_ _, aR_ _, aR_ _, aR_ _, aR_ _, aR_ _, aR_ _, WkA.own, WkA.nil, trivial⟩) rfl trivial rfl
def subV (f : Af) (v : Int) (g : Af) : Af := addS (plusS f v (-(cof f.ts v))) (scaleS g (cof f.ts v))
theorem FB.subst {F b : Nat} {n v : Int} {f g : Af} (h : FB F n f) (hg : FB b n g) (h0 : 0 ≤ v) (h1 : v < n) : FB (2 * F + b + 1) n (subV f v g) := by
 have hc := h.co v
 refine ⟨ok_fold (fun t ht => let h := (hg.scale hc).tm t ht; ⟨h.1, h.2.1⟩) (h.ts.ins h1 h0), fun w => ?_, ?_⟩
 ·
  rw [subV, addS, cof_fold, plusS, cof_ins, scaleS, cof_scale]
  have h2 := (hg.co w).mul hc
  split
  ·
   rename_i e
   subst e
   have e2 : cof f.ts v + -cof f.ts v + cof g.ts v * cof f.ts v = cof g.ts v * cof f.ts v := by grind
   rw [e2]; exact h2.mono (by omega)
  ·
   rw [Rat.add_zero]; exact ((h.co w).add h2).mono (by omega)
 ·
  exact (h.c.add (hg.c.mul hc)).mono (by omega)
def byS (p : Af) (l u : Rat) : Af := addS (scaleS p (u / (u - l))) (numS (gapQ l u))
theorem by_c {c l u : Rat} (h : u - l ≠ 0) : c * (u / (u - l)) + -(l * u) / (u - l) = u * ((c - l) / (u - l)) := by
 rw [Rat.div_def, Rat.div_def, Rat.div_def]; grind
theorem FB.by {n : Int} {p : Af} {l u : Rat} {B : Nat} (hp : FB 5 n p) (hl : Bt B l) (hu : Bt B u) (h : unB l u = true) : FB (4 * B + 8) n (byS p l u) := by
 have hne := un_ne h
 have hd := hu.sub hl
 refine ⟨ok_fold (fun t ht => by cases ht) (ok_scale _ hp.ts), fun w => ?_, ?_⟩
 ·
  rw [byS, addS, cof_fold, scaleS, cof_scale]
  show Bt _ (_ + 0)
  rw [Rat.add_zero]
  exact ((hp.co w).mul (hu.div hd hne)).mono (by omega)
 ·
  show Bt _ (p.c * (u / (u - l)) + gapQ l u)
  rw [gapQ, if_pos h, by_c hne]
  exact (hu.mul ((hp.c.sub hl).div hd hne)).mono (by omega)
def gB (B : Nat) : Nat → Nat
 | 0 => 5
 | m + 1 => 2 * gB B m + (4 * B + 8) + 1
theorem gB_le (B : Nat) : ∀ {m : Nat}, m ≤ 3 → gB B m ≤ 28 * B + 103
 | 0, _ => by simp only [gB]; omega
 | 1, _ => by simp only [gB]; omega
 | 2, _ => by simp only [gB]; omega
 | 3, _ => by simp only [gB]; omega
theorem gB_le2 (B : Nat) : ∀ {m : Nat}, m ≤ 2 → gB B m ≤ 12 * B + 47
 | 0, _ => by simp only [gB]; omega
 | 1, _ => by simp only [gB]; omega
 | 2, _ => by simp only [gB]; omega
theorem gB_mono (B : Nat) : ∀ {m k : Nat}, m ≤ k → gB B m ≤ gB B k := by
 intro m k h
 induction k with
 | zero => rw [show m = 0 by omega]; exact lR_ _
 | succ k ih =>
   rcases Nat.lt_or_ge k m with h1 | h1
   ·
    rw [show m = k + 1 by omega]; exact lR_ _
   ·
    have := ih h1; simp only [gB]; omega
theorem run_beta {J : Nat} (hJ : J ≤ 3) : ∃ B, B ≤ 700000 ∧ (∀ i, i < J → beta i ≤ B) ∧ gB B J + (3 + J) * (gB B J + B + 17) ≤ beta J := by
 obtain rfl | rfl | rfl | rfl : J = 0 ∨ J = 1 ∨ J = 2 ∨ J = 3 := by omega
 ·
  exact ⟨0, by omega, fun i h => by omega, by decide⟩
 ·
  exact ⟨150, by omega, fun i h => by obtain rfl : i = 0 := by omega
                                      decide, by decide⟩
 ·
  exact ⟨9000, by omega, fun i h => tL_ (beta_mono (show i ≤ 1 by omega)) (by decide), by decide⟩
 ·
  exact ⟨700000, by omega, fun i h => tL_ (beta_mono (show i ≤ 2 by omega)) (by decide), by decide⟩
theorem lx_zunstable {x y : Rw} (hx : x.sm) (hy : y.sm) : LV Tryz.prog 176 [.agg x.A, .agg y.A] (vl (.bool (unB x.q y.q))) := by
 refine LX_run (m := 0) (n0 := 0) mix Tryz.func176 rfl rfl rfl rfl ?_
 conv => whnf
 repeat' first | (refine bs (fun h => ?_) (fun h => ?_) <;> conv => whnf) | (refine Nc.mk (by kernel_rfl) ?_; conv => whnf) | (refine .c (lx_zsign hx.rq) ?_; conv => whnf) | (refine .c (lx_zsign hy.rq) ?_; conv => whnf)
 all_goals simp only [sg_lt, sg_gt] at *
 all_goals exact .q ⟨by simp_all [unB], rfl⟩
theorem lx_zover {a b : Rat} (ha : Sz a) (hb : Sz b) (h0 : b ≠ 0) : LV Tryz.prog 177 [ratV a, ratV b] (ratV (a / b)) := by
 refine LX_run (m := 0) (n0 := 0) mix Tryz.func177 rfl rfl rfl rfl ?_
 conv => whnf
 refine .c (lx_zdiv h0 (.c ha) (.c hb)) ?_
 conv => whnf
 exact .q ⟨rfl, rfl⟩
theorem lx_zover2 {x : Rw} {b : Rat} (hx : x.sm) (hb : Sz b) (h0 : b ≠ 0) : LV Tryz.prog 177 [.agg x.A, ratV b] (ratV (x.q / b)) := by
 refine LX_run (m := 0) (n0 := 0) mix Tryz.func177 rfl rfl rfl rfl ?_
 conv => whnf
 refine .c (lx_zdiv h0 hx.rq (.c hb)) ?_
 conv => whnf
 exact .q ⟨rfl, rfl⟩
def slB (l u : Rat) : Bool := unB l u && decide (0 < l + u)
theorem lx_zslope {x y : Rw} (hx : x.sm) (hy : y.sm) (bx : Bt 300000000 x.q) (by_ : Bt 300000000 y.q) : LV Tryz.prog 214 [.agg x.A, .agg y.A] (vl (.int .i64 (if slB x.q y.q then 1 else 0))) := by
 refine LX_run (m := 0) (n0 := 0) mix Tryz.func214 rfl rfl rfl rfl ?_
 conv => whnf
 refine .c (lx_zunstable hx hy) ?_
 conv => whnf
 refine bs (fun h => ?_) (fun h => ?_)
 ·
  conv => whnf
  refine .c (lx_zadd hx.rq hy.rq) ?_
  conv => whnf
  refine .c (lx_zsign (.c ((bx.add by_).mono (by decide)))) ?_
  conv => whnf
  rw [sg_gt]
  refine bs (fun h2 => ?_) (fun h2 => ?_)
  ·
   conv => whnf
   exact .q ⟨by rw [slB, h, h2]; rfl, rfl⟩
  ·
   conv => whnf
   exact .q ⟨by rw [slB, h, h2]; rfl, rfl⟩
 ·
  conv => whnf
  exact .q ⟨by rw [slB, h]; rfl, rfl⟩
theorem lx_zgap {x y : Rw} (hx : x.sm) (hy : y.sm) (bx : Bt 300000000 x.q) (by_ : Bt 300000000 y.q) : LV Tryz.prog 135 [.agg x.A, .agg y.A] (ratV (gapQ x.q y.q)) := by
 refine LX_run (m := 0) (n0 := 0) mix Tryz.func135 rfl rfl rfl rfl ?_
 conv => whnf
 refine .c (lx_zunstable hx hy) ?_
 conv => whnf
 refine bs (fun h => ?_) (fun h => ?_)
 ·
  conv => whnf
  refine .c (lx_zmul hx.rq hy.rq) ?_
  conv => whnf
  refine .c (lx_zneg (.c ((bx.mul by_).mono (by decide)))) ?_
  conv => whnf
  refine .c (lx_zsub hy.rq hx.rq) ?_
  conv => whnf
  refine .c (lx_zover ((bx.mul by_).neg.mono (by decide)) ((by_.sub bx).mono (by decide)) (un_ne h)) ?_
  conv => whnf
  refine .mk (by kernel_rfl) ?_
  conv => whnf
  exact .q ⟨by rw [gapQ, if_pos h], rfl⟩
 ·
  conv => whnf
  exact .q ⟨by rw [gapQ, if_neg (by rw [h]; exact Bool.false_ne_true)]; exact rat0V, rfl⟩
theorem lx_zlines {x y : Rw} (hx : x.sm) (hy : y.sm) (bx : Bt 300000000 x.q) (by_ : Bt 300000000 y.q) (h : unB x.q y.q = true) :
  LV Tryz.prog 215 [.agg x.A, .agg y.A] (.tup [.s (.d (.lit (.int .i64 (if slB x.q y.q then 1 else 0)))), .g (can (y.q / (y.q - x.q))).A, .g (can (gapQ x.q y.q)).A, .s (.d (.lit (.int .i64 0)))]) := by
 refine LX_run (m := 0) (n0 := 0) mix Tryz.func215 rfl rfl rfl rfl ?_
 conv => whnf
 refine .c (lx_zunstable hx hy) ?_
 conv => whnf
 refine bT (h) ?_
 conv => whnf
 refine .c (lx_zslope hx hy bx by_) ?_
 conv => whnf
 refine .c (lx_zsub hy.rq hx.rq) ?_
 conv => whnf
 refine .c (lx_zover2 hy ((by_.sub bx).mono (by decide)) (un_ne h)) ?_
 conv => whnf
 refine .c (lx_zgap hx hy bx by_) ?_
 conv => whnf
 refine .mk (by kernel_rfl) ?_
 conv => whnf
 exact .q ⟨rfl, rfl⟩
theorem lx_zone {r : Ro} : LV Tryz.prog 122 [.agg r.A] (.a (.d (musD [⟨r, q1⟩]))) := by
 refine LX_run (m := 0) (n0 := 0) mix Tryz.func122 rfl rfl rfl rfl ?_
 conv => whnf
 refine .c (lx_zofp) ?_
 conv => whnf
 refine .mk (by kernel_rfl) ?_
 conv => whnf
 exact .s ⟨rfl, rfl⟩
theorem LC.key0s {P : Program} {F : FuncId} {args : List V} {j k n : Nat} {t : TypeId} {xs : List (List D)} (hc : LC P F args [] (.a (.own j k xs)) [(j, .arr t k n)]) : LC P F args [] (.a (.own 0 k xs)) [(0, .arr t k n)] := by
 intro γ M w rs hr ha
 refine cM (hc γ M w rs hr ha) ?_
 rintro e w' ⟨r, γ', M', h1, h2, h3, h4⟩
 have hl0 : ∀ key e', look [(0, Ent.arr t k n)] key = some e' → key = 0 ∧ e' = .arr t k n := fun key e' h => by
  simp only [look] at h
  split at h
  ·
   injection h with h; exact ⟨by omega, h.symm⟩
  ·
   cases h
 have hlj : look [(j, Ent.arr t k n)] j = some (.arr t k n) := by simp [look]
 have ho : ∀ key b i, Owns (fun _ => γ' j) (look [(0, Ent.arr t k n)]) key b i → Owns γ' (look [(j, Ent.arr t k n)]) j b i := fun key b i h => by
  unfold Owns at h
  cases h5 : look [(0, Ent.arr t k n)] key with
  | none => rw [h5] at h; exact h.elim
  | some e' =>
    obtain ⟨rfl, rfl⟩ := hl0 key e' h5
    rw [h5] at h
    simp only [Owns, hlj]; exact h
 refine ⟨r, fun _ => γ' j, M', h1, ⟨fun key e' h => ?_, fun key b i h => h2.own j b i (ho key b i h), fun k1 k2 b l1 l2 _ _ => ?_, h2.u32, h2.dom, h2.glb⟩, ?_, ⟨h4.os, h4.tape, h4.output, h4.size, h4.fx, h4.other, h4.keep, fun key b i h hb => h4.new j b i (ho key b i h) hb, fun key e h => by simp [look] at h⟩⟩
 ·
  obtain ⟨rfl, rfl⟩ := hl0 key e' h
  exact h2.ent j _ hlj
 ·
  cases h5 : look [(0, Ent.arr t k n)] k1 with
  | none => rw [h5] at l1; cases l1
  | some e1 =>
    cases h6 : look [(0, Ent.arr t k n)] k2 with
    | none => rw [h6] at l2; cases l2
    | some e2 => rw [(hl0 _ _ h5).1, (hl0 _ _ h6).1]
 ·
  obtain ⟨q1, q2, q3⟩ := h3
  refine ⟨q1, rfl, fun e' k' n' h => ?_⟩
  obtain ⟨_, h5⟩ := hl0 _ _ h
  injection h5 with a b c
  subst a b c
  exact q3 _ _ _ hlj
theorem lx_zoneO1 {r : Ro} : LX Tryz.prog 122 [.agg r.A] [] fun v H => v = .a (.own 1 7 [Mu.D ⟨r, q1⟩]) ∧ H = [(1, .arr 110 7 1)] := by
 refine LX_run (m := 0) (n0 := 0) mix Tryz.func122 rfl rfl rfl rfl ?_
 conv => whnf
 refine .c (lx_zofp) ?_
 conv => whnf
 refine .mk (by kernel_rfl) ?_
 conv => whnf
 exact ⟨_, _, ⟨rfl, rfl⟩, vR_ _, rfl, ⟨⟨_, rfl, wke_refl _, rfl⟩, trivial⟩, rfl⟩
theorem lx_zoneO {r : Ro} : LX Tryz.prog 122 [.agg r.A] [] fun v H => v = .a (.own 0 7 [Mu.D ⟨r, q1⟩]) ∧ H = [(0, .arr 110 7 1)] := by
 obtain ⟨v, H, ⟨rfl, rfl⟩, hc⟩ := lx_zoneO1 (r := r)
 exact ⟨_, _, ⟨rfl, rfl⟩, LC.key0s hc⟩
theorem lx_bdecided {s : Sp} {k u : Int} (hs : SpOk s) : LV Tryz.prog 164 [.agg s.A, vl (.int .i64 k), vl (.int .i64 u)] (vl (.bool (decB s k u))) := by
 have hl := hs.pl
 refine LX_run (m := 0) (n0 := 0) mix Tryz.func164 rfl rfl rfl rfl ?_
 conv => whnf
 refine .mk Nat (fun i => ⟨[(7, vl (.int .i64 i)), (3, .a (.ptr 0 0)), (2, vl (.int .i64 u)), (1, vl (.int .i64 k))], [(0, .box 43 s.A)], 1⟩) (fun i => i ≤ s.path.length ∧ ∀ j y, j < i → s.path[j]? = some y → isD s.q k u y = false) (fun i => s.path.length - i) 0 Wk.go ⟨zL_ _, by intro j y h; omega⟩ fun i hi => ?_
 obtain ⟨hi, hall⟩ := hi
 conv => whnf
 refine bs (fun h1 => ?_) (fun h1 => ?_)
 ·
  conv => whnf
  have h1' : i < s.path.length := by simpa using h1
  obtain ⟨f, hf⟩ := at_some h1'
  repeat' first | (refine bs (fun h => ?_) (fun h => ?_) <;> conv => whnf) | (refine Nc.mk (by kernel_rfl) ?_; conv => whnf) | (refine .c (lx_zFits hs.q (hs.pn f (mG_ hf))) ?_; conv => whnf) | (refine .mk i f.D rfl (at_map hf) ?_; conv => whnf)
  all_goals first
   | exact .q ⟨by rw [decB, any_true hf (by simp_all [isD])], rfl⟩
   | (refine ⟨i + 1, Wk.go, ⟨h1', fun j y hj hy => ?_⟩, by omega⟩
      rcases Nat.lt_succ_iff_lt_or_eq.1 hj with h3 | h3
      ·
       exact hall j y h3 hy
      ·
       subst h3; rw [hf] at hy; injection hy with hy; rw [← hy]; simp_all [isD])
 ·
  conv => whnf
  exact .q ⟨by rw [decB, any_none fun j y hy => hall j y (by have := at_lt hy; simp at h1; omega) hy], rfl⟩
def onR (s : Sp) (u : Int) : Ro := if decB s 1 u = true then ⟨8, u, 0, 0⟩ else ⟨8, u, (bestS s u).1, 0⟩
def offR (s : Sp) (u : Int) : Ro := if decB s 2 u = true then ⟨10, u, 0, 0⟩ else ⟨10, u, 0, (bestS s u).2⟩
theorem lx_bon {s : Sp} {u : Int} (hs : SpOk s) : LV Tryz.prog 124 [.agg s.A, vl (.int .i64 u)] (.tup [.g (onR s u).A, .s (.d (.lit (.bool (onS s u (bestS s u).1))))]) := by
 have hl := hs.ll
 obtain ⟨b1, b2⟩ := bestS_le s u
 have hR : onR s u = if decB s 1 u = true then ⟨8, u, 0, 0⟩ else ⟨8, u, (bestS s u).1, 0⟩ := rfl
 refine LX_run (m := 0) (n0 := 0) mix Tryz.func124 rfl rfl rfl rfl ?_
 conv => whnf
 refine .c (lx_zbest hs) ?_
 conv => whnf
 generalize (bestS s u).1 = lo at *
 generalize (bestS s u).2 = hi at *
 generalize onR s u = r at *
 refine .c (lx_bdecided hs) ?_
 conv => whnf
 refine bs (fun h => ?_) (fun h => ?_)
 ·
  conv => whnf
  rw [if_pos h] at hR
  exact .q ⟨by rw [hR, onS, h]; rfl, rfl⟩
 ·
  conv => whnf
  rw [if_neg (by rw [h]; exact Bool.false_ne_true)] at hR
  repeat' first | (refine bs (fun h => ?_) (fun h => ?_) <;> conv => whnf) | (refine Nc.mk (by kernel_rfl) ?_; conv => whnf) | (refine .c (lx_zsign (atL_sm hs.ln _).rq) ?_; conv => whnf) | (refine .mk (lo - 1).toNat (atL s.ls lo).D (by have := of_decide_eq_true ‹decide (lo > 0) = true›; rw [wr64 (by omega) (by omega)]; omega) (at_map (atL_some (of_decide_eq_true ‹decide (lo > 0) = true›) (by omega))) ?_; conv => whnf)
  all_goals exact .q ⟨by rw [hR]; first | (simp_all [onS]; done) | (simp_all [onS]; intros; omega), rfl⟩
theorem lx_boff {s : Sp} {u : Int} (hs : SpOk s) : LV Tryz.prog 123 [.agg s.A, vl (.int .i64 u)] (.tup [.g (offR s u).A, .s (.d (.lit (.bool (offS s u (bestS s u).2))))]) := by
 have hl := hs.ll
 obtain ⟨b1, b2⟩ := bestS_le s u
 have hR : offR s u = if decB s 2 u = true then ⟨10, u, 0, 0⟩ else ⟨10, u, 0, (bestS s u).2⟩ := rfl
 refine LX_run (m := 0) (n0 := 0) mix Tryz.func123 rfl rfl rfl rfl ?_
 conv => whnf
 refine .c (lx_zbest hs) ?_
 conv => whnf
 generalize (bestS s u).1 = lo at *
 generalize (bestS s u).2 = hi at *
 generalize offR s u = r at *
 refine .c (lx_bdecided hs) ?_
 conv => whnf
 refine bs (fun h => ?_) (fun h => ?_)
 ·
  conv => whnf
  rw [if_pos h] at hR
  exact .q ⟨by rw [hR, offS, h]; rfl, rfl⟩
 ·
  conv => whnf
  rw [if_neg (by rw [h]; exact Bool.false_ne_true)] at hR
  repeat' first | (refine bs (fun h => ?_) (fun h => ?_) <;> conv => whnf) | (refine Nc.mk (by kernel_rfl) ?_; conv => whnf) | (refine .c (lx_zsign (atL_sm hs.ln _).rq) ?_; conv => whnf) | (refine .mk (hi - 1).toNat (atL s.ls hi).D (by have := of_decide_eq_true ‹decide (hi > 0) = true›; rw [wr64 (by omega) (by omega)]; omega) (at_map (atL_some (of_decide_eq_true ‹decide (hi > 0) = true›) (by omega))) ?_; conv => whnf)
  all_goals exact .q ⟨by rw [hR]; first | (simp_all [offS]; done) | (simp_all [offS]; intros; omega), rfl⟩
abbrev bdA (x : Rat) (l : List Mu) (ok : Bool) : List A := [.d (.lit (.bool (decide (x < 0)))), .d (.lm (limbs x.num.natAbs)), .d (.lm (limbs (dn x))), .d (musD l), .d (.lit (.bool ok))]
theorem bdA0 (l : List Mu) (ok : Bool) : bdA 0 l ok = [.d (.lit (.bool false)), .d (.nat 0), .d (.nat 0), .d (musD l), .d (.lit (.bool ok))] := by
 have h := can0
 injection h with h1 h2 h3
 show [A.d (.lit (.bool (decide ((0 : Rat) < 0)))), A.d (.lm (limbs (0 : Rat).num.natAbs)), A.d (.lm (limbs (dn 0))), _, _] = _
 rw [h1, h2, h3]
theorem mub2 {K : Nat} {a b : Mu} (ha : Bt K a.c) (hb : Bt K b.c) : MuB K [a, b] := fun m hm => by
 simp only [List.mem_cons, List.not_mem_nil, or_false] at hm
 rcases hm with rfl | rfl
 ·
  exact ha
 ·
  exact hb
theorem mub1 {K : Nat} {a : Mu} (ha : Bt K a.c) : MuB K [a] := fun m hm => by rw [List.mem_singleton.1 hm]; exact ha
theorem lx_bleast {s : Sp} {u : Int} {J B : Nat} (hs : SpOk s) (hL : LsB s J B) (h0 : 0 ≤ u) (h1 : u < J) :
  ∃ (x : Rat) (l : List Mu), (Bt B x ∧ MuB (3 * B + 1) l ∧ l.length ≤ 2) ∧ LV Tryz.prog 74 [.agg s.A, vl (.int .i64 u)] (.agg (bdA x l true)) := by
 suffices hh : LX Tryz.prog 74 [.agg s.A, vl (.int .i64 u)] [] fun v H => ∃ (x : Rat) (l : List Mu), (Bt B x ∧ MuB (3 * B + 1) l ∧ l.length ≤ 2) ∧ v = .agg (bdA x l true) ∧ H = [] by
  obtain ⟨v, H', ⟨x, l, h1, rfl, rfl⟩, hc⟩ := hh
  exact ⟨x, l, h1, _, _, ⟨rfl, rfl⟩, hc⟩
 have hl := hs.ll
 obtain ⟨bb1, bb2⟩ := best_b hL h0 h1
 have hle := bestTo_le s.ls u s.ls.length
 have e : bestS s u = bestTo s.ls u s.ls.length := rfl
 rw [← e] at hle
 obtain ⟨k1, k2, k3, k4⟩ := hle
 refine LX_run (m := 0) (n0 := 0) mix Tryz.func74 rfl rfl rfl rfl ?_
 conv => whnf
 refine .c (lx_zbest hs) ?_
 conv => whnf
 generalize (bestS s u).1 = lo at *
 generalize (bestS s u).2 = hi at *
 have sl := atL_sm hs.ln lo
 have z0 : ∀ (H : List (Nat × Ent)) (r : Ro), Rt 0 H (V.agg [.d (.lit (.bool false)), .d (.nat 0), .d (.nat 0), .d (musD [⟨r, q1⟩]), .d (.lit (.bool true))]) fun v H => ∃ (x : Rat) (l : List Mu), (Bt B x ∧ MuB (3 * B + 1) l ∧ l.length ≤ 2) ∧ v = .agg (bdA x l true) ∧ H = [] := fun H r =>
  .q ⟨0, [⟨r, q1⟩], ⟨bt0 _, mub1 (q1_b.mono (zL_ _)), by simp⟩, by rw [bdA0], rfl⟩
 refine bs (fun h2 => ?_) (fun h2 => ?_)
 ·
  conv => whnf
  refine .c (lx_zone (r := ⟨5, u, 0, 0⟩)) ?_
  conv => whnf
  exact z0 _ _
 ·
  conv => whnf
  have p1 := pos_of h2 k1
  refine .mk ((lo - 1).toNat) ((atL s.ls lo).D) (by rw [wr64 (by omega) (by omega)]; omega) (at_map (atL_some p1 (by omega))) ?_
  conv => whnf
  conv => whnf
  refine .c (lx_zsign sl.rq) ?_
  conv => whnf
  refine bs (fun h3 => ?_) (fun h3 => ?_)
  ·
   conv => whnf
   refine .c (lx_zone (r := ⟨5, u, 0, 0⟩)) ?_
   conv => whnf
   exact z0 _ _
  ·
   conv => whnf
   refine .l [] (lx_zoneO (r := ⟨6, u, 0, 0⟩)) ?_
   conv => whnf
   refine .c (lx_zone (r := ⟨11, u, lo, 0⟩)) ?_
   conv => whnf
   refine .mk (([⟨⟨6, u, 0, 0⟩, q1⟩, ⟨⟨11, u, lo, 0⟩, q1⟩] : List Mu).map Mu.D) rfl rfl (by simp) ?_
   conv => whnf
   refine .mk ((lo - 1).toNat) ((atL s.ls lo).D) (by rw [wr64 (by omega) (by omega)]; omega) (at_map (atL_some p1 (by omega))) ?_
   conv => whnf
   conv => whnf
   refine .c (lx_zcanon sl.rq) ?_
   conv => whnf
   exact .s ⟨vAt s.ls lo, [⟨⟨6, u, 0, 0⟩, q1⟩, ⟨⟨11, u, lo, 0⟩, q1⟩], ⟨bb1 (by omega), mub2 (q1_b.mono (zL_ _)) (q1_b.mono (zL_ _)), by simp⟩, rfl, rfl⟩
theorem lx_bmost {s : Sp} {u : Int} {J B : Nat} (hs : SpOk s) (hL : LsB s J B) (h0 : 0 ≤ u) (h1 : u < J) :
  ∃ (x : Rat) (l : List Mu) (ok : Bool), (Bt B x ∧ MuB (3 * B + 1) l ∧ l.length ≤ 2) ∧ LV Tryz.prog 73 [.agg s.A, vl (.int .i64 u)] (.agg (bdA x l ok)) := by
 suffices hh : LX Tryz.prog 73 [.agg s.A, vl (.int .i64 u)] [] fun v H => ∃ (x : Rat) (l : List Mu) (ok : Bool), (Bt B x ∧ MuB (3 * B + 1) l ∧ l.length ≤ 2) ∧ v = .agg (bdA x l ok) ∧ H = [] by
  obtain ⟨v, H', ⟨x, l, ok, h1, rfl, rfl⟩, hc⟩ := hh
  exact ⟨x, l, ok, h1, _, _, ⟨rfl, rfl⟩, hc⟩
 have hl := hs.ll
 obtain ⟨bb1, bb2⟩ := best_b hL h0 h1
 have hle := bestTo_le s.ls u s.ls.length
 have e : bestS s u = bestTo s.ls u s.ls.length := rfl
 rw [← e] at hle
 obtain ⟨k1, k2, k3, k4⟩ := hle
 have nilR : All2 WkA [.d (.lit (.bool false)), .d (.nat 0), .d (.nat 0), .d (.sl 7 []), .d (.lit (.bool false))] (bdA 0 [] false) := by
  rw [bdA0]; exact ⟨aR_ _, aR_ _, aR_ _, aR_ _, aR_ _, trivial⟩
 have nilP : Bt B 0 ∧ MuB (3 * B + 1) [] ∧ ([] : List Mu).length ≤ 2 := ⟨bt0 _, fun m hm => (by cases hm), by simp⟩
 refine LX_run (m := 0) (n0 := 0) mix Tryz.func73 rfl rfl rfl rfl ?_
 conv => whnf
 refine .c (lx_boff hs) ?_
 conv => whnf
 have hof : offS s u (bestS s u).2 = false → (bestS s u).2 ≠ 0 → 0 < vAt s.ls (bestS s u).2 := fun h h2 => by
  simp only [offS, Bool.or_eq_false_iff, Bool.and_eq_false_iff, decide_eq_false_iff_not] at h
  have h3 := h.2
  exact of_decide_eq_true (by rw [← sg_gt]; exact decide_eq_true (by omega))
 have hon : onS s u (bestS s u).1 = false → (bestS s u).1 ≠ 0 → vAt s.ls (bestS s u).1 < 0 := fun h h2 => by
  simp only [onS, Bool.or_eq_false_iff, Bool.and_eq_false_iff, decide_eq_false_iff_not] at h
  have h3 := h.2
  exact of_decide_eq_true (by rw [← sg_lt]; exact decide_eq_true (by omega))
 refine bs (fun h2 => ?_) (fun h2 => ?_)
 ·
  conv => whnf
  refine .c (lx_zone (r := offR s u)) ?_
  conv => whnf
  exact .q ⟨0, [⟨offR s u, q1⟩], true, ⟨bt0 _, mub1 (q1_b.mono (zL_ _)), by simp⟩, by rw [bdA0], rfl⟩
 ·
  conv => whnf
  refine .c (lx_zbest hs) ?_
  conv => whnf
  refine .c (lx_bon hs) ?_
  conv => whnf
  generalize onR s u = ron at *
  generalize onS s u (bestS s u).1 = on at *
  generalize offS s u (bestS s u).2 = off at *
  generalize (bestS s u).1 = lo at *
  generalize (bestS s u).2 = hi at *
  have sl := atL_sm hs.ln lo
  have sh := atL_sm hs.ln hi
  refine bs (fun ho => ?_) (fun ho => ?_)
  ·
   conv => whnf
   refine bs (fun h3 => ?_) (fun h3 => ?_)
   ·
    conv => whnf
    exact .mk _ [] ⟨0, [], false, nilP, rfl, rfl⟩ (WkV.agg nilR) rfl trivial rfl
   ·
    conv => whnf
    have p2 := pos_of h3 k3
    refine .mk ((hi - 1).toNat) ((atL s.ls hi).D) (by rw [wr64 (by omega) (by omega)]; omega) (at_map (atL_some p2 (by omega))) ?_
    conv => whnf
    conv => whnf
    refine .c (lx_zcanon sh.rq) ?_
    conv => whnf
    refine .l [] (lx_zoneO (r := ron)) ?_
    conv => whnf
    refine .c (lx_zone (r := ⟨12, u, 0, hi⟩)) ?_
    conv => whnf
    refine .mk (([⟨ron, q1⟩, ⟨⟨12, u, 0, hi⟩, q1⟩] : List Mu).map Mu.D) rfl rfl (by simp) ?_
    conv => whnf
    refine .mk (by kernel_rfl) ?_
    conv => whnf
    exact .s ⟨vAt s.ls hi, [⟨ron, q1⟩, ⟨⟨12, u, 0, hi⟩, q1⟩], true, ⟨bb2 (by omega), mub2 (q1_b.mono (zL_ _)) (q1_b.mono (zL_ _)), by simp⟩, rfl, rfl⟩
  ·
   conv => whnf
   refine bs (fun h3 => ?_) (fun h3 => ?_)
   ·
    conv => whnf
    exact .mk _ [] ⟨0, [], false, nilP, rfl, rfl⟩ (WkV.agg nilR) rfl trivial rfl
   ·
    conv => whnf
    have p2 := pos_of h3 k3
    refine bs (fun h4 => ?_) (fun h4 => ?_)
    ·
     conv => whnf
     exact .mk _ [] ⟨0, [], false, nilP, rfl, rfl⟩ (WkV.agg nilR) rfl trivial rfl
    ·
     conv => whnf
     have p1 := pos_of h4 k1
     have hne : vAt s.ls hi - vAt s.ls lo ≠ 0 := by
      have a3 := hof h2 (by omega)
      have a4 := hon ho (by omega)
      grind
     have b1 := bb1 (by omega)
     have b2 := bb2 (by omega)
     have l1 := atL_b hs.lb lo
     have l2 := atL_b hs.lb hi
     have bd := q1_b.div (b2.sub b1) hne
     have ld := q1_b.div (l2.sub l1) hne
     refine .mk ((hi - 1).toNat) ((atL s.ls hi).D) (by rw [wr64 (by omega) (by omega)]; omega) (at_map (atL_some p2 (by omega))) ?_
     conv => whnf
     conv => whnf
     refine .c (lx_zofp) ?_
     conv => whnf
     refine .mk ((lo - 1).toNat) ((atL s.ls lo).D) (by rw [wr64 (by omega) (by omega)]; omega) (at_map (atL_some p1 (by omega))) ?_
     conv => whnf
     conv => whnf
     refine .c (lx_zsub sh.rq sl.rq) ?_
     conv => whnf
     refine .c (lx_zdiv hne (.c q1_z) (.c ((l2.sub l1).mono (by decide)))) ?_
     conv => whnf
     refine .mk (by kernel_rfl) ?_
     conv => whnf
     refine .c (lx_zcanon sh.rq) ?_
     conv => whnf
     refine .c (lx_zmul (.c (ld.mono (by decide))) sh.rq) ?_
     conv => whnf
     refine .mk (by kernel_rfl) ?_
     conv => whnf
     exact .s ⟨vAt s.ls hi, [⟨⟨12, u, 0, hi⟩, q1 / (vAt s.ls hi - vAt s.ls lo) * vAt s.ls hi⟩, ⟨⟨13, u, lo, hi⟩, q1 / (vAt s.ls hi - vAt s.ls lo)⟩], true, ⟨b2, mub2 ((bd.mul b2).mono (by omega)) (bd.mono (by omega)), by simp⟩, rfl, rfl⟩
theorem cmp_rng (a b : Rat) : -1 ≤ cmpQ a b ∧ cmpQ a b ≤ 1 := by
 unfold cmpQ
 rcases Int.lt_trichotomy (a - b).num 0 with h | h | h
 ·
  rw [Int.sign_eq_neg_one_of_neg h]; omega
 ·
  rw [h]; decide
 ·
  rw [Int.sign_eq_one_of_pos h]; omega
theorem cmp_lt {a b : Rat} : cmpQ a b < 0 ↔ a < b := by
 rw [← Rat.not_le, ← cmpQ_ge]; omega
def inStep (q : Qu) (i : Int) (up : Bool) (v : Rat) (d : Dc) : Rat :=
 if d.k = (cond up 4 3) ∧ d.i = i ∧ fitB q d = true then (cond up (rmin v d.at_.q) (rmax v d.at_.q)) else v
def inTo (s : Sp) (i : Int) (up : Bool) (k : Nat) : Rat := (s.path.take k).foldl (inStep s.q i up) (cond up (atQ s.q.r.hi i) (atQ s.q.r.lo i))
def inS (s : Sp) (i : Int) (up : Bool) : Rat := inTo s i up s.path.length
theorem inTo_succ {s : Sp} {i : Int} {up : Bool} {k : Nat} {d : Dc} (h : s.path[k]? = some d) : inTo s i up (k + 1) = inStep s.q i up (inTo s i up k) d := by
 unfold inTo
 rw [take_snoc h, List.foldl_append]; rfl
theorem inTo_b {s : Sp} {i : Int} {up : Bool} {K : Nat} (h1 : ∀ q ∈ s.q.r.lo, Bt K q) (h2 : ∀ q ∈ s.q.r.hi, Bt K q) (h3 : ∀ d ∈ s.path, Bt K d.at_.q) (k : Nat) : Bt K (inTo s i up k) := by
 have at_b : ∀ l : List Rat, (∀ q ∈ l, Bt K q) → Bt K (atQ l i) := fun l h => by
  unfold atQ
  cases hx : l[i.toNat]? with
  | none => exact bt0 _
  | some x => exact h x (mG_ hx)
 induction k with
 | zero => cases up
           ·
            exact at_b _ h1
           ·
            exact at_b _ h2
 | succ k ih =>
   rcases Nat.lt_or_ge k s.path.length with hk | hk
   ·
    obtain ⟨d, hd⟩ := at_some hk
    rw [inTo_succ hd]
    unfold inStep
    have hb := h3 d (mG_ hd)
    split
    ·
     cases up
     ·
      exact rmax_b ih hb
     ·
      exact rmin_b ih hb
    ·
     exact ih
   ·
    have : inTo s i up (k + 1) = inTo s i up k := by rw [inTo, inTo, List.take_of_length_le (by omega), List.take_of_length_le (by omega)]
    rw [this]; exact ih
theorem fit_can {q : Qu} {d : Dc} (h : fitB q d = true) (hk : d.k = 3 ∨ d.k = 4) : d.at_ = can d.at_.q := by
 unfold fitB at h
 rw [if_neg (by omega), if_pos hk] at h
 simp only [Bool.and_eq_true] at h
 exact ok_can h.2
theorem sg1 {a b : Rat} : decide (IntKind.i64.wrap (1 * cmpQ a b) > 0) = decide (b < a) := by
 have := cmp_rng a b
 rw [wr64 (by omega) (by omega), Int.one_mul, cmp_gt]
theorem sg2 {a b : Rat} : decide (IntKind.i64.wrap (-1 * cmpQ a b) > 0) = decide (a < b) := by
 have := cmp_rng a b
 rw [wr64 (by omega) (by omega)]
 have h := cmp_lt (a := a) (b := b)
 by_cases h2 : a < b
 ·
  rw [decide_eq_true h2, decide_eq_true]; have := h.2 h2; omega
 ·
  rw [decide_eq_false h2, decide_eq_false]; intro h3; exact h2 (h.1 (by omega))
theorem lx_binput {s : Sp} {i : Nat} {up : Bool} (hs : SpOk s) (hi : i < s.q.g.n) :
  ∃ r : Ro, LV Tryz.prog 72 [.agg s.A, vl (.int .i64 (i : Nat)), vl (.bool up)] (.agg (bdA (inS s i up) [⟨r, q1⟩] true)) := by
 suffices hh : LX Tryz.prog 72 [.agg s.A, vl (.int .i64 (i : Nat)), vl (.bool up)] [] fun v H => ∃ r : Ro, v = .agg (bdA (inS s i up) [⟨r, q1⟩] true) ∧ H = [] by
  obtain ⟨v, H', ⟨r, rfl, rfl⟩, hc⟩ := hh
  exact ⟨r, _, _, ⟨rfl, rfl⟩, hc⟩
 have hlo := hs.q.r.lo; have hhi := hs.q.r.hi; have hpl := hs.pl
 obtain ⟨x, hx⟩ := at_some (l := s.q.r.lo) (i := i) (by omega)
 obtain ⟨y, hy⟩ := at_some (l := s.q.r.hi) (i := i) (by omega)
 have hv0 : inTo s i false 0 = x := by show atQ s.q.r.lo i = x; unfold atQ; rw [Int.toNat_natCast, hx]; rfl
 have hv1 : inTo s i true 0 = y := by show atQ s.q.r.hi i = y; unfold atQ; rw [Int.toNat_natCast, hy]; rfl
 have hbq := fun up k => inTo_b (i := (i : Int)) (up := up) hs.rlo hs.rhi hs.pb k
 subst hv0 hv1
 cases up
 all_goals refine LX_run (m := 0) (n0 := 0) mix Tryz.func72 rfl rfl rfl rfl ?_
           conv => whnf
 all_goals refine .mk (i) ((can (inTo s i false 0)).D) (rfl) (at_map (f := fun q => (can q).D) hx) ?_
           conv => whnf
 all_goals conv => whnf
 ·
  refine .c (lx_zone (r := ⟨1, i, 0, 0⟩)) ?_
  conv => whnf
  refine .mk (by kernel_rfl) ?_
  conv => whnf
  refine .mk (Nat × Rat × Ro) (fun (k, w, r) => ⟨[(11, vl (.int .i64 (k : Nat))), (10, vl (.int .i64 (1))), (9, vl (.int .i64 3)), (8, .a (.ptr 3 0)), (6, .a (.ptr 1 0)), (3, .a (.ptr 0 0)), (1, vl (.int .i64 (i : Nat)))], [(0, .box 43 s.A), (1, .box 88 [.d (.lit (.bool false)), .d (.nat 0), .d (.nat 0), .d (.lit (.slice none 0 0)), .d (.lit (.bool false))]), (3, .box 88 (bdA w [⟨r, q1⟩] true))], 4⟩)
   (fun b => b.1 ≤ s.path.length ∧ b.2.1 = inTo s i false b.1) (fun b => s.path.length - b.1) (0, inTo s i false 0, ⟨1, i, 0, 0⟩) Wk.go ⟨zL_ _, rfl⟩ fun ⟨k, w, r⟩ hb => ?_
  obtain ⟨hb, hw⟩ := hb
  simp only at hb hw
  have hbk := hbq false k
  rw [← hw] at hbk
  conv => whnf
  refine bs (fun h1 => ?_) (fun h1 => ?_)
  ·
   conv => whnf
   have h1' : k < s.path.length := by simpa using h1
   obtain ⟨d, hd⟩ := at_some h1'
   have hdm := mG_ hd
   have hsm := hs.pn d hdm
   have hsu := inTo_succ (i := (i : Int)) (up := false) hd
   rw [← hw] at hsu
   obtain ⟨dk, di, da⟩ := d
   refine .mk (k) ((Dc.D ⟨dk, di, da⟩)) (rfl) (at_map hd) ?_
   conv => whnf
   conv => whnf
   have hst : inTo s i false (k + 1) = if dk = 3 ∧ di = i ∧ fitB s.q ⟨dk, di, da⟩ = true then rmax w da.q else w := hsu
   refine bs (fun h2 => ?_) (fun h2 => ?_)
   ·
    conv => whnf
    have e2 : dk = 3 := by simpa using h2
    refine bs (fun h3 => ?_) (fun h3 => ?_)
    ·
     conv => whnf
     have e3 : di = i := by simpa using h3
     refine .c (lx_zFits hs.q hsm) ?_
     conv => whnf
     refine bs (fun h4 => ?_) (fun h4 => ?_)
     ·
      conv => whnf
      obtain ⟨y9, rfl⟩ : ∃ y9, da = can y9 := ⟨_, fit_can h4 (.inl e2)⟩
      refine .c (lx_zcmp hsm.rq (.c (hbk.mono (by decide)))) ?_
      conv => whnf
      rw [sg1]
      rw [if_pos ⟨e2, e3, h4⟩] at hst
      refine bs (fun h5 => ?_) (fun h5 => ?_)
      ·
       conv => whnf
       refine .c (lx_zone (r := ⟨4, k, 0, 0⟩)) ?_
       conv => whnf
       refine .mk (by kernel_rfl) ?_
       conv => whnf
       have e5 : rmax w (can y9).q = y9 := by
        have := of_decide_eq_true h5
        rw [can_q] at this ⊢
        unfold rmax; rw [if_neg (by grind)]
       exact ⟨(k + 1, y9, ⟨4, k, 0, 0⟩), Wk.go, ⟨h1', by rw [← e5]; exact hst.symm⟩, by simp only; omega⟩
      ·
       conv => whnf
       have e5 : rmax w (can y9).q = w := by
        have := of_decide_eq_false h5
        unfold rmax; rw [if_pos (by grind)]
       rw [e5] at hst
       exact ⟨(k + 1, w, r), Wk.go, ⟨h1', hst.symm⟩, by simp only; omega⟩
     ·
      conv => whnf
      rw [if_neg (by rw [h4]; simp)] at hst
      exact ⟨(k + 1, w, r), Wk.go, ⟨h1', hst.symm⟩, by simp only; omega⟩
    ·
     conv => whnf
     have e3 : ¬ di = i := by simpa using h3
     rw [if_neg (fun h => e3 h.2.1)] at hst
     exact ⟨(k + 1, w, r), Wk.go, ⟨h1', hst.symm⟩, by simp only; omega⟩
   ·
    conv => whnf
    have e2 : ¬ dk = 3 := by simpa using h2
    rw [if_neg (fun h => e2 h.1)] at hst
    exact ⟨(k + 1, w, r), Wk.go, ⟨h1', hst.symm⟩, by simp only; omega⟩
  ·
   conv => whnf
   have e : k = s.path.length := by simp at h1; omega
   subst e
   rw [inS, ← hw]
   exact .s ⟨r, rfl, rfl⟩
 ·
  refine .c (lx_zone (r := ⟨1, i, 0, 0⟩)) ?_
  conv => whnf
  refine .mk (by kernel_rfl) ?_
  conv => whnf
  refine .mk (i) ((can (inTo s i true 0)).D) (rfl) (at_map (f := fun q => (can q).D) hy) ?_
  conv => whnf
  conv => whnf
  refine .c (lx_zone (r := ⟨2, i, 0, 0⟩)) ?_
  conv => whnf
  refine .mk (by kernel_rfl) ?_
  conv => whnf
  refine .mk (Nat × Rat × Ro) (fun (k, w, r) => ⟨[(11, vl (.int .i64 (k : Nat))), (10, vl (.int .i64 (-1))), (9, vl (.int .i64 4)), (8, .a (.ptr 3 0)), (6, .a (.ptr 1 0)), (3, .a (.ptr 0 0)), (1, vl (.int .i64 (i : Nat)))], [(0, .box 43 s.A), (1, .box 88 [.d (.lit (.bool false)), .d (.nat 0), .d (.nat 0), .d (.lit (.slice none 0 0)), .d (.lit (.bool false))]), (3, .box 88 (bdA w [⟨r, q1⟩] true))], 4⟩)
   (fun b => b.1 ≤ s.path.length ∧ b.2.1 = inTo s i true b.1) (fun b => s.path.length - b.1) (0, inTo s i true 0, ⟨2, i, 0, 0⟩) Wk.go ⟨zL_ _, rfl⟩ fun ⟨k, w, r⟩ hb => ?_
  obtain ⟨hb, hw⟩ := hb
  simp only at hb hw
  have hbk := hbq true k
  rw [← hw] at hbk
  conv => whnf
  refine bs (fun h1 => ?_) (fun h1 => ?_)
  ·
   conv => whnf
   have h1' : k < s.path.length := by simpa using h1
   obtain ⟨d, hd⟩ := at_some h1'
   have hdm := mG_ hd
   have hsm := hs.pn d hdm
   have hsu := inTo_succ (i := (i : Int)) (up := true) hd
   rw [← hw] at hsu
   obtain ⟨dk, di, da⟩ := d
   refine .mk (k) ((Dc.D ⟨dk, di, da⟩)) (rfl) (at_map hd) ?_
   conv => whnf
   conv => whnf
   have hst : inTo s i true (k + 1) = if dk = 4 ∧ di = i ∧ fitB s.q ⟨dk, di, da⟩ = true then rmin w da.q else w := hsu
   refine bs (fun h2 => ?_) (fun h2 => ?_)
   ·
    conv => whnf
    have e2 : dk = 4 := by simpa using h2
    refine bs (fun h3 => ?_) (fun h3 => ?_)
    ·
     conv => whnf
     have e3 : di = i := by simpa using h3
     refine .c (lx_zFits hs.q hsm) ?_
     conv => whnf
     refine bs (fun h4 => ?_) (fun h4 => ?_)
     ·
      conv => whnf
      obtain ⟨y9, rfl⟩ : ∃ y9, da = can y9 := ⟨_, fit_can h4 (.inr e2)⟩
      refine .c (lx_zcmp hsm.rq (.c (hbk.mono (by decide)))) ?_
      conv => whnf
      rw [sg2]
      rw [if_pos ⟨e2, e3, h4⟩] at hst
      refine bs (fun h5 => ?_) (fun h5 => ?_)
      ·
       conv => whnf
       refine .c (lx_zone (r := ⟨4, k, 0, 0⟩)) ?_
       conv => whnf
       refine .mk (by kernel_rfl) ?_
       conv => whnf
       have e5 : rmin w (can y9).q = y9 := by
        have := of_decide_eq_true h5
        rw [can_q] at this ⊢
        unfold rmin; rw [if_neg (by grind)]
       exact ⟨(k + 1, y9, ⟨4, k, 0, 0⟩), Wk.go, ⟨h1', by rw [← e5]; exact hst.symm⟩, by simp only; omega⟩
      ·
       conv => whnf
       have e5 : rmin w (can y9).q = w := by
        have := of_decide_eq_false h5
        unfold rmin; rw [if_pos (by grind)]
       rw [e5] at hst
       exact ⟨(k + 1, w, r), Wk.go, ⟨h1', hst.symm⟩, by simp only; omega⟩
     ·
      conv => whnf
      rw [if_neg (by rw [h4]; simp)] at hst
      exact ⟨(k + 1, w, r), Wk.go, ⟨h1', hst.symm⟩, by simp only; omega⟩
    ·
     conv => whnf
     have e3 : ¬ di = i := by simpa using h3
     rw [if_neg (fun h => e3 h.2.1)] at hst
     exact ⟨(k + 1, w, r), Wk.go, ⟨h1', hst.symm⟩, by simp only; omega⟩
   ·
    conv => whnf
    have e2 : ¬ dk = 4 := by simpa using h2
    rw [if_neg (fun h => e2 h.1)] at hst
    exact ⟨(k + 1, w, r), Wk.go, ⟨h1', hst.symm⟩, by simp only; omega⟩
  ·
   conv => whnf
   have e : k = s.path.length := by simp at h1; omega
   subst e
   rw [inS, ← hw]
   exact .s ⟨r, rfl, rfl⟩
theorem lx_bof {s : Sp} {v : Int} {up : Bool} {J B : Nat} (hs : SpOk s) (hq : QuB s.q) (hL : LsB s J B) (hJ : J ≤ s.q.g.us.length) (hP : ∀ d ∈ s.path, Bt 11 d.at_.q) (h0 : 0 ≤ v) (h1 : v < s.q.g.n + J) :
  ∃ (x : Rat) (l : List Mu) (ok : Bool), (Bt (B + 16) x ∧ MuB (3 * B + 1) l ∧ l.length ≤ 1 + (if v < s.q.g.n then 0 else 1)) ∧ LV Tryz.prog 37 [.agg s.A, vl (.int .i64 v), vl (.bool up)] (.agg (bdA x l ok)) := by
 have hn2 := hs.q.g.n2; have hu1 := hs.q.g.u1
 rcases Int.lt_or_le v s.q.g.n with hv | hv
 ·
  obtain ⟨i, rfl⟩ : ∃ i : Nat, v = i := ⟨v.toNat, by omega⟩
  obtain ⟨r, c⟩ := lx_binput (up := up) hs (show i < s.q.g.n by omega)
  refine ⟨inS s i up, [⟨r, q1⟩], true, ⟨(inTo_b hq.r.sl hq.r.sh hP _).mono (by omega), mub1 (q1_b.mono (zL_ _)), by simp⟩, ?_⟩
  cases up
  all_goals refine LX_run (m := 0) (n0 := 0) mix Tryz.func37 rfl rfl rfl rfl ?_
            conv => whnf
  all_goals refine .c (lx_zquvalid hs.q) ?_
            conv => whnf
  all_goals refine .c (lx_zgvars hs.q.g) ?_
            conv => whnf
  all_goals refine bF (decide_eq_false (by omega)) ?_
            conv => whnf
  all_goals refine bT (decide_eq_true (by omega)) ?_
            conv => whnf
  all_goals refine .c (c) ?_
            conv => whnf
  all_goals exact .q ⟨rfl, rfl⟩
 ·
  have hw : IntKind.i64.wrap (v - (s.q.g.n : Int)) = v - s.q.g.n := wr64 (by omega) (by omega)
  cases up
  ·
   obtain ⟨x, l, ⟨k1, k2, k3⟩, c⟩ := lx_bleast (u := v - s.q.g.n) hs hL (by omega) (by omega)
   refine ⟨x, l, true, ⟨k1.mono (by omega), k2, by rw [if_neg (by omega)]; omega⟩, ?_⟩
   refine LX_run (m := 0) (n0 := 0) mix Tryz.func37 rfl rfl rfl rfl ?_
   conv => whnf
   refine .c (lx_zquvalid hs.q) ?_
   conv => whnf
   refine bF (decide_eq_false (by omega)) ?_
   conv => whnf
   refine .c (lx_zgvars hs.q.g) ?_
   conv => whnf
   refine bF (decide_eq_false (by omega)) ?_
   conv => whnf
   refine bF (decide_eq_false (by omega)) ?_
   conv => whnf
   rw [hw]
   refine .c (c) ?_
   conv => whnf
   exact .q ⟨rfl, rfl⟩
  ·
   obtain ⟨x, l, ok, ⟨k1, k2, k3⟩, c⟩ := lx_bmost (u := v - s.q.g.n) hs hL (by omega) (by omega)
   refine ⟨x, l, ok, ⟨k1.mono (by omega), k2, by rw [if_neg (by omega)]; omega⟩, ?_⟩
   refine LX_run (m := 0) (n0 := 0) mix Tryz.func37 rfl rfl rfl rfl ?_
   conv => whnf
   refine .c (lx_zquvalid hs.q) ?_
   conv => whnf
   refine bF (decide_eq_false (by omega)) ?_
   conv => whnf
   refine .c (lx_zgvars hs.q.g) ?_
   conv => whnf
   refine bF (decide_eq_false (by omega)) ?_
   conv => whnf
   refine bF (decide_eq_false (by omega)) ?_
   conv => whnf
   rw [hw]
   refine .c (c) ?_
   conv => whnf
   exact .q ⟨rfl, rfl⟩
def unC (n : Nat) (ts : List Tm) : Nat := (ts.filter fun t => decide ((n : Int) ≤ t.v)).length
theorem unC_le {n J : Nat} : ∀ {ts : List Tm} {lo : Int}, TsOk ((n + J : Nat) : Int) lo ts → lo ≤ (n + J : Nat) → (unC n ts : Int) ≤ (n + J : Nat) - (if lo ≤ n then (n : Int) else lo)
 | [], lo, _, h => by simp only [unC, List.filter_nil, List.length_nil]; split <;> omega
 | t :: ts, lo, h, hl => by
   have h1 := h.1; have h2 := h.2.1
   have ih := unC_le (n := n) (J := J) h.2.2.2 (by omega)
   unfold unC at ih ⊢
   by_cases hv : (n : Int) ≤ t.v
   ·
    rw [List.filter_cons_of_pos (by simpa using hv), List.length_cons]
    rw [if_neg (by omega)] at ih
    split <;> omega
   ·
    rw [List.filter_cons_of_neg (by simpa using hv)]
    rw [if_pos (by omega)] at ih
    rw [if_pos (by omega)]; exact ih
theorem unC_succ {n i : Nat} {ts : List Tm} {t : Tm} (h : ts[i]? = some t) : unC n (ts.take (i + 1)) = unC n (ts.take i) + (if t.v < n then 0 else 1) := by
 unfold unC
 rw [take_snoc h, List.filter_append, List.length_append]
 by_cases hv : (n : Int) ≤ t.v
 ·
  rw [List.filter_cons_of_pos (by simpa using hv), if_neg (by omega)]; rfl
 ·
  rw [List.filter_cons_of_neg (by simpa using hv), if_pos (by omega)]; rfl
theorem unC_take (n i : Nat) (ts : List Tm) : unC n (ts.take i) ≤ unC n ts := by
 unfold unC
 exact ((List.take_sublist i ts).filter _).length_le
theorem lx_blower {s : Sp} {f : Af} {k J B : Nat} (hs : SpOk s) (hq : QuB s.q) (hL : LsB s J B) (hJ : J < s.q.g.us.length) (hP : ∀ d ∈ s.path, Bt 11 d.at_.q) (hf : FB k (s.q.g.n + J : Nat) f) (hB : B ≤ 700000) (hk : k ≤ 30000000) :
  ∃ (x : Rat) (l : List Mu) (ok : Bool), (Bt (k + (3 + J) * (k + B + 17)) x ∧ MuB (9 * (k + 3 * B + 3)) l ∧ l.length ≤ 9) ∧ LV Tryz.prog 145 [.agg s.A, .agg f.A] (.tup [.g (can x).A, .s (.d (musD l)), .s (.d (.lit (.bool ok)))]) := by
 suffices hh : LX Tryz.prog 145 [.agg s.A, .agg f.A] [] fun v H => ∃ (x : Rat) (l : List Mu) (ok : Bool), (Bt (k + (3 + J) * (k + B + 17)) x ∧ MuB (9 * (k + 3 * B + 3)) l ∧ l.length ≤ 9) ∧ v = .tup [.g (can x).A, .s (.d (musD l)), .s (.d (.lit (.bool ok)))] ∧ H = [] by
  obtain ⟨v, H', ⟨x, l, ok, h1, rfl, rfl⟩, hc⟩ := hh
  exact ⟨x, l, ok, h1, _, _, ⟨rfl, rfl⟩, hc⟩
 have hn3 := hq.g.n2; have hu4 := hq.g.u1
 have hlen := hf.ts.len (by omega)
 have hfl : f.ts.length ≤ 3 + J := by omega
 refine LX_run (m := 0) (n0 := 0) mix Tryz.func145 rfl rfl rfl rfl ?_
 conv => whnf
 refine .c (lx_zquvalid hs.q) ?_
 conv => whnf
 refine .c (lx_zgvars hs.q.g) ?_
 conv => whnf
 refine .c (lx_zlvalid ((hf.up (n' := ((s.q.g.n + s.q.g.us.length : Nat) : Int)) (lR_ _) (by omega)).ok (by omega) (by omega) (by omega))) ?_
 conv => whnf
 refine .mk (by kernel_rfl) ?_
 conv => whnf
 have hun := unC_le (n := s.q.g.n) (J := J) hf.ts (by omega)
 rw [if_pos (by omega)] at hun
 have nilR : ∀ H : List (Nat × Ent), Rt 0 H (V.tup [.g [.d (.lit (.bool false)), .d (.nat 0), .d (.nat 0)], .s (.d (.lit (.slice none 0 0))), .s (.d (.lit (.bool false)))]) fun v H => ∃ (x : Rat) (l : List Mu) (ok : Bool), (Bt (k + (3 + J) * (k + B + 17)) x ∧ MuB (9 * (k + 3 * B + 3)) l ∧ l.length ≤ 9) ∧ v = .tup [.g (can x).A, .s (.d (musD l)), .s (.d (.lit (.bool ok)))] ∧ H = [] := fun H =>
  .mk _ [] ⟨0, [], false, ⟨bt0 _, fun m hm => (by cases hm), by simp⟩, rfl, rfl⟩ (WkV.tup ⟨by show All2 WkA _ (can 0).A; rw [can0]; exact ⟨aR_ _, aR_ _, aR_ _, trivial⟩, WkA.nil, aR_ _, trivial⟩) rfl trivial rfl
 refine .mk (Nat × Rat × List Mu) (fun (i, x, l) => ⟨[(9, vl (.int .i64 (i : Nat))), (8, .a (.d (musD l))), (7, .a (.ptr 3 0)), (4, .a (.ptr 2 0)), (3, .a (.ptr 1 0)), (2, .a (.ptr 0 0))], [(0, .box 43 s.A), (1, .box 39 f.A), (2, .box 37 [.d (.lit (.bool false)), .d (.nat 0), .d (.nat 0)]), (3, .box 37 (can x).A)], 4⟩)
  (fun b => b.1 ≤ f.ts.length ∧ Bt (k + b.1 * (k + B + 17)) b.2.1 ∧ MuB ((b.1 + unC s.q.g.n (f.ts.take b.1)) * (k + 3 * B + 3)) b.2.2 ∧ b.2.2.length ≤ b.1 + unC s.q.g.n (f.ts.take b.1)) (fun b => f.ts.length - b.1) (0, f.c, []) ?_ ⟨zL_ _, hf.c.mono (by omega), fun m hm => (by cases hm), by simp⟩ fun ⟨i, x, l⟩ hb => ?_
 ·
  exact Wk.of ⟨⟨_, rfl, vR_ _, rfl⟩, ⟨_, rfl, WkV.of WkA.nil, rfl⟩, ⟨_, rfl, vR_ _, rfl⟩, ⟨_, rfl, vR_ _, rfl⟩, ⟨_, rfl, vR_ _, rfl⟩, ⟨_, rfl, vR_ _, rfl⟩, trivial⟩ ⟨⟨_, rfl, wke_refl _, rfl⟩, ⟨_, rfl, wke_refl _, rfl⟩, ⟨_, rfl, wke_refl _, rfl⟩, ⟨_, rfl, wke_refl _, rfl⟩, trivial⟩ rfl
 obtain ⟨hi, hx, hK, hln⟩ := hb
 simp only at hi hx hK hln
 have hut := unC_take s.q.g.n i f.ts
 have hmx : i * (k + B + 17) ≤ 6 * (k + B + 17) := Nat.mul_le_mul_right _ (by omega)
 have hmJ : i * (k + B + 17) ≤ (3 + J) * (k + B + 17) := Nat.mul_le_mul_right _ (by omega)
 have hmK : (i + unC s.q.g.n (f.ts.take i)) * (k + 3 * B + 3) ≤ 9 * (k + 3 * B + 3) := Nat.mul_le_mul_right _ (by omega)
 conv => whnf
 refine bs (fun h1 => ?_) (fun h1 => ?_)
 ·
  conv => whnf
  have h1' : i < f.ts.length := by simpa using h1
  obtain ⟨t, ht⟩ := at_some h1'
  obtain ⟨t1, t2, t3, t4⟩ := hf.tm t (mG_ ht)
  have hus := unC_succ (n := s.q.g.n) ht
  have hut2 := unC_take s.q.g.n (i + 1) f.ts
  obtain ⟨y, b, ok, ⟨o1, o2, o3⟩, c1⟩ := lx_bof (v := t.v) (up := decide (t.q.num.sign < 0)) hs hq hL (Nat.le_of_lt hJ) hP t1 t2
  have hbu : unC s.q.g.n (f.ts.take i) + b.length ≤ unC s.q.g.n (f.ts.take (i + 1)) + 1 := by rw [hus]; omega
  have hb2 : b.length ≤ 2 := by split at o3 <;> omega
  clear o3
  have hxn : Bt (k + (i + 1) * (k + B + 17)) (x + t.q * y) := (hx.add (t4.mul o1)).mono (by rw [Nat.add_mul i 1, Nat.one_mul]; omega)
  refine .mk (i) (t.D) (rfl) (at_map ht) ?_
  conv => whnf
  conv => whnf
  refine .c (lx_zsign (.c (t4.mono (by omega)))) ?_
  conv => whnf
  refine bs (fun hsg => ?_) (fun hsg => ?_)
  ·
   conv => whnf
   rw [hsg] at c1
   refine .c (c1) ?_
   conv => whnf
   refine .mk (by kernel_rfl) ?_
   conv => whnf
   cases ok
   ·
    conv => whnf
    exact nilR _
   ·
    conv => whnf
    refine .c (lx_zmul (.c (t4.mono (by omega))) (.c (o1.mono (by omega)))) ?_
    conv => whnf
    refine .c (lx_zadd (.c (hx.mono (by omega))) (.c ((t4.mul o1).mono (by omega)))) ?_
    conv => whnf
    refine .mk (by kernel_rfl) ?_
    conv => whnf
    refine .mk (Nat × List Mu) (fun (m, l') => ⟨[(13, vl (.int .i64 (m : Nat))), (12, .a (.ptr 6 0)), (11, .a (.ptr 5 0)), (9, vl (.int .i64 (i : Nat))), (8, .a (.d (musD l'))), (7, .a (.ptr 3 0)), (4, .a (.ptr 2 0)), (3, .a (.ptr 1 0)), (2, .a (.ptr 0 0))], [(0, .box 43 s.A), (1, .box 39 f.A), (2, .box 37 [.d (.lit (.bool false)), .d (.nat 0), .d (.nat 0)]), (3, .box 37 (can (x + t.q * y)).A), (5, .box 88 (bdA y b true)), (6, .box 37 [.d (.lit (.bool false)), .d (.lm (limbs t.q.num.natAbs)), .d (.lm (limbs (dn t.q)))])], 7⟩)
     (fun e => e.1 ≤ b.length ∧ MuB ((i + unC s.q.g.n (f.ts.take i) + e.1) * (k + 3 * B + 3)) e.2 ∧ e.2.length ≤ i + unC s.q.g.n (f.ts.take i) + e.1) (fun e => b.length - e.1) (0, l) Wk.go ⟨zL_ _, hK, hln⟩ fun ⟨m, l'⟩ he => ?_
    obtain ⟨hm, hK2, hln2⟩ := he
    simp only at hm hK2 hln2
    conv => whnf
    refine bs (fun h2 => ?_) (fun h2 => ?_)
    ·
     conv => whnf
     have h2' : m < b.length := by simpa using h2
     obtain ⟨z, hz⟩ := at_some h2'
     have zb := o2 z (mG_ hz)
     have hmm : (i + unC s.q.g.n (f.ts.take i) + m) * (k + 3 * B + 3) ≤ 9 * (k + 3 * B + 3) := Nat.mul_le_mul_right _ (by omega)
     have e9 : (i + unC s.q.g.n (f.ts.take i) + (m + 1)) * (k + 3 * B + 3) = (i + unC s.q.g.n (f.ts.take i) + m) * (k + 3 * B + 3) + (k + 3 * B + 3) := by rw [← Nat.add_assoc, Nat.add_mul _ 1, Nat.one_mul]
     refine .mk (m) (z.D) (rfl) (at_map hz) ?_
     conv => whnf
     conv => whnf
     refine .mk (m) (z.D) (rfl) (at_map hz) ?_
     conv => whnf
     conv => whnf
     rw [rabs_A]
     refine .c (lx_zmul (.c (t4.rabs.mono (by omega))) (.c (zb.mono (by omega)))) ?_
     conv => whnf
     refine .c (lx_mplus (r := z.r) hK2 (t4.rabs.mul zb) (by omega) (by omega)) ?_
     conv => whnf
     refine .mk (by kernel_rfl) ?_
     conv => whnf
     refine ⟨(m + 1, plS l' z.r (rabs t.q * z.c)), ?_, ⟨h2', (hK2.plS (t4.rabs.mul zb)).up (by show _ ≤ (i + unC s.q.g.n (f.ts.take i) + (m + 1)) * (k + 3 * B + 3); rw [e9]; omega), by have := plS_len l' z.r (rabs t.q * z.c); simp only; omega⟩, by simp only; omega⟩
     exact Wk.go
    ·
     conv => whnf
     have e2 : m = b.length := by simp at h2; omega
     have e3 : i + unC s.q.g.n (f.ts.take i) + m ≤ i + 1 + unC s.q.g.n (f.ts.take (i + 1)) := by rw [e2]; omega
     exact ⟨(i + 1, x + t.q * y, l'), Wk.go, ⟨h1', hxn, hK2.up (Nat.mul_le_mul_right _ e3), tL_ hln2 e3⟩, by simp only; omega⟩
  ·
   conv => whnf
   rw [hsg] at c1
   refine .c (c1) ?_
   conv => whnf
   refine .mk (by kernel_rfl) ?_
   conv => whnf
   cases ok
   ·
    conv => whnf
    exact nilR _
   ·
    conv => whnf
    refine .c (lx_zmul (.c (t4.mono (by omega))) (.c (o1.mono (by omega)))) ?_
    conv => whnf
    refine .c (lx_zadd (.c (hx.mono (by omega))) (.c ((t4.mul o1).mono (by omega)))) ?_
    conv => whnf
    refine .mk (by kernel_rfl) ?_
    conv => whnf
    refine .mk (Nat × List Mu) (fun (m, l') => ⟨[(13, vl (.int .i64 (m : Nat))), (12, .a (.ptr 6 0)), (11, .a (.ptr 5 0)), (9, vl (.int .i64 (i : Nat))), (8, .a (.d (musD l'))), (7, .a (.ptr 3 0)), (4, .a (.ptr 2 0)), (3, .a (.ptr 1 0)), (2, .a (.ptr 0 0))], [(0, .box 43 s.A), (1, .box 39 f.A), (2, .box 37 [.d (.lit (.bool false)), .d (.nat 0), .d (.nat 0)]), (3, .box 37 (can (x + t.q * y)).A), (5, .box 88 (bdA y b true)), (6, .box 37 [.d (.lit (.bool false)), .d (.lm (limbs t.q.num.natAbs)), .d (.lm (limbs (dn t.q)))])], 7⟩)
     (fun e => e.1 ≤ b.length ∧ MuB ((i + unC s.q.g.n (f.ts.take i) + e.1) * (k + 3 * B + 3)) e.2 ∧ e.2.length ≤ i + unC s.q.g.n (f.ts.take i) + e.1) (fun e => b.length - e.1) (0, l) Wk.go ⟨zL_ _, hK, hln⟩ fun ⟨m, l'⟩ he => ?_
    obtain ⟨hm, hK2, hln2⟩ := he
    simp only at hm hK2 hln2
    conv => whnf
    refine bs (fun h2 => ?_) (fun h2 => ?_)
    ·
     conv => whnf
     have h2' : m < b.length := by simpa using h2
     obtain ⟨z, hz⟩ := at_some h2'
     have zb := o2 z (mG_ hz)
     have hmm : (i + unC s.q.g.n (f.ts.take i) + m) * (k + 3 * B + 3) ≤ 9 * (k + 3 * B + 3) := Nat.mul_le_mul_right _ (by omega)
     have e9 : (i + unC s.q.g.n (f.ts.take i) + (m + 1)) * (k + 3 * B + 3) = (i + unC s.q.g.n (f.ts.take i) + m) * (k + 3 * B + 3) + (k + 3 * B + 3) := by rw [← Nat.add_assoc, Nat.add_mul _ 1, Nat.one_mul]
     refine .mk (m) (z.D) (rfl) (at_map hz) ?_
     conv => whnf
     conv => whnf
     refine .mk (m) (z.D) (rfl) (at_map hz) ?_
     conv => whnf
     conv => whnf
     rw [rabs_A]
     refine .c (lx_zmul (.c (t4.rabs.mono (by omega))) (.c (zb.mono (by omega)))) ?_
     conv => whnf
     refine .c (lx_mplus (r := z.r) hK2 (t4.rabs.mul zb) (by omega) (by omega)) ?_
     conv => whnf
     refine .mk (by kernel_rfl) ?_
     conv => whnf
     refine ⟨(m + 1, plS l' z.r (rabs t.q * z.c)), ?_, ⟨h2', (hK2.plS (t4.rabs.mul zb)).up (by show _ ≤ (i + unC s.q.g.n (f.ts.take i) + (m + 1)) * (k + 3 * B + 3); rw [e9]; omega), by have := plS_len l' z.r (rabs t.q * z.c); simp only; omega⟩, by simp only; omega⟩
     exact Wk.go
    ·
     conv => whnf
     have e2 : m = b.length := by simp at h2; omega
     have e3 : i + unC s.q.g.n (f.ts.take i) + m ≤ i + 1 + unC s.q.g.n (f.ts.take (i + 1)) := by rw [e2]; omega
     exact ⟨(i + 1, x + t.q * y, l'), Wk.go, ⟨h1', hxn, hK2.up (Nat.mul_le_mul_right _ e3), tL_ hln2 e3⟩, by simp only; omega⟩
 ·
  conv => whnf
  refine .c (lx_zcanon (.c (hx.mono (by omega)))) ?_
  conv => whnf
  exact .q ⟨x, l, true, ⟨hx.mono (by omega), hK.up hmK, by omega⟩, rfl, rfl⟩
theorem cof_none {v : Int} : ∀ {ts : List Tm}, (∀ t ∈ ts, t.v ≠ v) → cof ts v = 0
 | [], _ => rfl
 | t :: ts, h => by rw [cof, if_neg (h t (by simp)), cof_none fun t ht => h t (by simp [ht]), Rat.add_zero]
theorem lx_zcoef {f : Af} {n v : Int} {k : Nat} (h : FB k n f) (h0 : 0 ≤ n) (hn : n ≤ 100000) : LV Tryz.prog 213 [.agg f.A, vl (.int .i64 v)] (ratV (cof f.ts v)) := by
 have hlen := h.ts.len h0
 refine LX_run (m := 0) (n0 := 0) mix Tryz.func213 rfl rfl rfl rfl ?_
 conv => whnf
 refine .mk Nat (fun i => ⟨[(5, vl (.int .i64 (i : Nat))), (4, .a (.ptr 1 0)), (2, .a (.ptr 0 0)), (1, vl (.int .i64 v))], [(0, .box 39 f.A), (1, .box 37 [.d (.lit (.bool false)), .d (.nat 0), .d (.nat 0)])], 2⟩) (fun i => i ≤ f.ts.length ∧ ∀ (j : Nat) t, j < i → f.ts[j]? = some t → t.v ≠ v) (fun i => f.ts.length - i) 0 Wk.go ⟨zL_ _, fun j t h => by omega⟩ fun i hb => ?_
 obtain ⟨hi, hall⟩ := hb
 conv => whnf
 refine bs (fun h1 => ?_) (fun h1 => ?_)
 ·
  conv => whnf
  have h1' : i < f.ts.length := by simpa using h1
  obtain ⟨t, ht⟩ := at_some h1'
  refine .mk (i) (t.D) (rfl) (at_map ht) ?_
  conv => whnf
  conv => whnf
  refine bs (fun h2 => ?_) (fun h2 => ?_)
  ·
   conv => whnf
   have e2 : t.v = v := by simpa using h2
   refine .mk (i) (t.D) (rfl) (at_map ht) ?_
   conv => whnf
   conv => whnf
   exact .q ⟨by rw [← e2, (h.ts.cof_mem t (mG_ ht)).1], rfl⟩
  ·
   conv => whnf
   have e2 : ¬ t.v = v := by simpa using h2
   refine ⟨i + 1, Wk.go, ⟨h1', fun j x hj hx => ?_⟩, by omega⟩
   rcases Nat.lt_succ_iff_lt_or_eq.1 hj with h3 | h3
   ·
    exact hall j x h3 hx
   ·
    subst h3; rw [ht] at hx; injection hx with hx; rw [← hx]; exact e2
 ·
  conv => whnf
  have e : i = f.ts.length := by simp at h1; omega
  have e0 : cof f.ts v = 0 := cof_none fun t ht => by
   obtain ⟨j, hj⟩ := List.mem_iff_getElem?.1 ht
   exact hall j t (by rw [e]; exact at_lt hj) hj
  exact .q ⟨by rw [e0]; exact rat0V, rfl⟩
theorem lx_zsubst {f g : Af} {n v : Int} {F b : Nat} (h : FB F n f) (hg : FB b n g) (h0 : 0 ≤ v) (hv : v < n) (hn : n ≤ 100000) (hk : 3 * F + b + 3 ≤ 1000000000) : LV Tryz.prog 216 [.agg f.A, vl (.int .i64 v), .agg g.A] (.agg (subV f v g).A) := by
 have hc := h.co v
 refine LX_run (m := 0) (n0 := 0) mix Tryz.func216 rfl rfl rfl rfl ?_
 conv => whnf
 refine .c (lx_zcoef h (by omega) hn) ?_
 conv => whnf
 refine .c (lx_zneg (.c (hc.mono (by omega)))) ?_
 conv => whnf
 refine .c (lx_plus h hc.neg h0 hv hn (by omega)) ?_
 conv => whnf
 refine .c (lx_scale hg hc (by omega) hn (by omega)) ?_
 conv => whnf
 refine .c (lx_add (h.plus h0 hv hc.neg) (hg.scale hc) (by omega) hn (by omega)) ?_
 conv => whnf
 refine .mk (by kernel_rfl) ?_
 conv => whnf
 exact .q ⟨rfl, rfl⟩
theorem lx_replace0 {s : Sp} {f : Af} {l : List Mu} {j : Nat} {k : Nat} {n : Int} (hs : SpOk s) (hj : j < s.q.g.us.length) (hf : FB k n f) (h0 : 0 ≤ n) (hn : n ≤ 100000) (hz : cof f.ts (s.q.g.n + j : Nat) = 0) :
  LV Tryz.prog 206 [.agg s.A, .agg f.A, .a (.d (musD l)), vl (.int .i64 (j : Nat))] (.tup [.g f.A, .s (.d (musD l)), .s (.d (.lit (.bool true)))]) := by
 have hn2 := hs.q.g.n2; have hu1 := hs.q.g.u1
 have hw : IntKind.i64.wrap ((s.q.g.n : Int) + (j : Int)) = ((s.q.g.n + j : Nat) : Int) := by rw [wr64 (by omega) (by omega)]; omega
 obtain ⟨p, hp⟩ := at_some hj
 refine LX_run (m := 0) (n0 := 0) mix Tryz.func206 rfl rfl rfl rfl ?_
 conv => whnf
 rw [hw]
 refine .mk (j) (p.D) (rfl) (at_map hp) ?_
 conv => whnf
 conv => whnf
 refine .c (lx_zcoef hf h0 hn) ?_
 conv => whnf
 rw [hz]
 refine .c (lx_zsign (.c sz0)) ?_
 conv => whnf
 exact .q ⟨rfl, rfl⟩
theorem lx_replace1 {s : Sp} {f : Af} {l : List Mu} {j J B F K : Nat} (hs : SpOk s) (hq : QuB s.q) (hL : LsB s J B) (hj : j < J) (hJ : J ≤ s.q.g.us.length) (hB : B ≤ 700000) (hf : FB F (s.q.g.n + J : Nat) f) (hF : F ≤ 9000000) (hl : MuB K l) (hK : K ≤ 1000000000) (hln : l.length ≤ 1000) :
  ∃ (f' : Af) (l' : List Mu) (ok : Bool), (FB (2 * F + (4 * B + 8) + 1) (s.q.g.n + J : Nat) f' ∧ MuB (K + (F + 2 * B + 1) + 1) l' ∧ l'.length ≤ l.length + 1) ∧ LV Tryz.prog 206 [.agg s.A, .agg f.A, .a (.d (musD l)), vl (.int .i64 (j : Nat))] (.tup [.g f'.A, .s (.d (musD l')), .s (.d (.lit (.bool ok)))]) := by
 suffices hh : LX Tryz.prog 206 [.agg s.A, .agg f.A, .a (.d (musD l)), vl (.int .i64 (j : Nat))] [] fun v H => ∃ (f' : Af) (l' : List Mu) (ok : Bool), (FB (2 * F + (4 * B + 8) + 1) (s.q.g.n + J : Nat) f' ∧ MuB (K + (F + 2 * B + 1) + 1) l' ∧ l'.length ≤ l.length + 1) ∧ v = .tup [.g f'.A, .s (.d (musD l')), .s (.d (.lit (.bool ok)))] ∧ H = [] by
  obtain ⟨v, H', ⟨f', l', ok, h1, rfl, rfl⟩, hc⟩ := hh
  exact ⟨f', l', ok, h1, _, _, ⟨rfl, rfl⟩, hc⟩
 have hn2 := hs.q.g.n2; have hu1 := hs.q.g.u1; have hll := hs.ll
 have hw : IntKind.i64.wrap ((s.q.g.n : Int) + (j : Int)) = ((s.q.g.n + j : Nat) : Int) := by rw [wr64 (by omega) (by omega)]; omega
 obtain ⟨p, hp⟩ := at_some (l := s.q.g.us) (i := j) (by omega)
 have hpf : FB 5 (s.q.g.n + J : Nat) p := (hq.g.us j p hp).up (lR_ _) (by omega)
 have hcb := hf.co ((s.q.g.n + j : Nat) : Int)
 have key1 : ∀ g, FB (4 * B + 8) (s.q.g.n + J : Nat) g → LV Tryz.prog 216 [.agg f.A, vl (.int .i64 (s.q.g.n + j : Nat)), .agg g.A] (.agg (subV f (s.q.g.n + j : Nat) g).A) := fun g hg => lx_zsubst hf hg (by omega) (by omega) (by omega) (by omega)
 have key0 : LV Tryz.prog 216 [.agg f.A, vl (.int .i64 (s.q.g.n + j : Nat)), .agg [.d (.lit (.slice none 0 0)), .d (.lit (.bool false)), .d (.nat 0), .d (.nat 0)]] (.agg (subV f (s.q.g.n + j : Nat) (numS 0)).A) :=
  (key1 (numS 0) (FB.z _ _)).wk ⟨vR_ _, vR_ _, WkV.agg (by rw [numS0_A]; exact ⟨WkA.nil, aR_ _, aR_ _, aR_ _, trivial⟩), trivial⟩
 have res : ∀ g, FB (4 * B + 8) (s.q.g.n + J : Nat) g → ∀ (r : Ro) (x : Rat), Bt (F + 2 * B + 1) x → FB (2 * F + (4 * B + 8) + 1) (s.q.g.n + J : Nat) (subV f (s.q.g.n + j : Nat) g) ∧ MuB (K + (F + 2 * B + 1) + 1) (plS l r x) ∧ (plS l r x).length ≤ l.length + 1 := fun g hg r x hx =>
  ⟨hf.subst hg (by omega) (by omega), hl.plS hx, plS_len _ _ _⟩
 have hpb : FB (4 * B + 8) (s.q.g.n + J : Nat) p := hpf.up (by omega) (Int.le_refl _)
 obtain ⟨bb1, bb2⟩ := best_b (u := (j : Int)) hL (by omega) (by omega)
 have hle := bestTo_le s.ls (j : Int) s.ls.length
 have e : bestS s (j : Int) = bestTo s.ls (j : Int) s.ls.length := rfl
 rw [← e] at hle
 obtain ⟨k1, k2, k3, k4⟩ := hle
 have hof : offS s (j : Int) (bestS s (j : Int)).2 = false → (bestS s (j : Int)).2 ≠ 0 → 0 < vAt s.ls (bestS s (j : Int)).2 := fun h h2 => by
  simp only [offS, Bool.or_eq_false_iff, Bool.and_eq_false_iff, decide_eq_false_iff_not] at h
  have h3 := h.2
  exact of_decide_eq_true (by rw [← sg_gt]; exact decide_eq_true (by omega))
 have hon : onS s (j : Int) (bestS s (j : Int)).1 = false → (bestS s (j : Int)).1 ≠ 0 → vAt s.ls (bestS s (j : Int)).1 < 0 := fun h h2 => by
  simp only [onS, Bool.or_eq_false_iff, Bool.and_eq_false_iff, decide_eq_false_iff_not] at h
  have h3 := h.2
  exact of_decide_eq_true (by rw [← sg_lt]; exact decide_eq_true (by omega))
 have c_b := lx_zbest (u := (j : Int)) hs
 have c_on := lx_bon (u := (j : Int)) hs
 have c_off := lx_boff (u := (j : Int)) hs
 generalize onR s (j : Int) = ron at *
 generalize offR s (j : Int) = rof at *
 generalize onS s (j : Int) (bestS s (j : Int)).1 = on at *
 generalize offS s (j : Int) (bestS s (j : Int)).2 = off at *
 generalize (bestS s (j : Int)).1 = lo at *
 generalize (bestS s (j : Int)).2 = hi at *
 have sl := atL_sm hs.ln lo
 have sh := atL_sm hs.ln hi
 have bl := atL_b hs.lb lo
 have bh := atL_b hs.lb hi
 refine LX_run (m := 0) (n0 := 0) mix Tryz.func206 rfl rfl rfl rfl ?_
 conv => whnf
 rw [hw]
 refine .mk (j) (p.D) (rfl) (at_map hp) ?_
 conv => whnf
 conv => whnf
 refine .c (lx_zcoef hf (by omega) (by omega)) ?_
 conv => whnf
 have cz : Sz (cof f.ts (s.q.g.n + j : Nat)) := hcb.mono (by omega)
 generalize hcc : cof f.ts (s.q.g.n + j : Nat) = c at *
 have hsz : Bt (F + 2 * B + 1) (rabs c) := hcb.rabs.mono (by omega)
 have keyp : ∀ r : Ro, LV Tryz.prog 187 [.a (.d (musD l)), .agg r.A, .agg [.d (.lit (.bool false)), .d (.lm (limbs c.num.natAbs)), .d (.lm (limbs (dn c)))]] (.a (.d (musD (plS l r (rabs c))))) := fun r => by
  rw [rabs_A]; exact lx_mplus hl hsz (by omega) (by omega)
 refine .c (lx_zsign (.c cz)) ?_
 conv => whnf
 refine bs (fun h0 => ?_) (fun h0 => ?_)
 ·
  conv => whnf
  exact .q ⟨f, l, true, ⟨hf.up (by omega) (Int.le_refl _), hl.up (by omega), by omega⟩, rfl, rfl⟩
 ·
  conv => whnf
  refine .c (c_b) ?_
  conv => whnf
  refine .c (c_on) ?_
  conv => whnf
  refine bs (fun ho => ?_) (fun ho => ?_)
  ·
   conv => whnf
   refine .c (c_off) ?_
   conv => whnf
   refine bs (fun hf0 => ?_) (fun hf0 => ?_)
   all_goals conv => whnf
   all_goals repeat' first | (refine bs (fun h => ?_) (fun h => ?_) <;> conv => whnf) | (refine Nc.mk (by kernel_rfl) ?_; conv => whnf) | (refine .c (key1 p hpb) ?_; conv => whnf) | (refine .c (keyp ⟨6, j, 0, 0⟩) ?_; conv => whnf) | (refine .c (keyp ron) ?_; conv => whnf)
   all_goals first
    | exact .q ⟨_, _, true, res p hpb ron _ hsz, rfl, rfl⟩
    | exact .q ⟨_, _, true, res p hpb ⟨6, j, 0, 0⟩ _ hsz, rfl, rfl⟩
  ·
   conv => whnf
   refine .c (c_off) ?_
   conv => whnf
   refine bs (fun hf0 => ?_) (fun hf0 => ?_)
   ·
    conv => whnf
    repeat' first | (refine bs (fun h => ?_) (fun h => ?_) <;> conv => whnf) | (refine Nc.mk (by kernel_rfl) ?_; conv => whnf) | (refine .c (key0) ?_; conv => whnf) | (refine .c (keyp ⟨5, j, 0, 0⟩) ?_; conv => whnf) | (refine .c (keyp rof) ?_; conv => whnf)
    all_goals first
     | exact .q ⟨_, _, true, res (numS 0) (FB.z _ _) rof _ hsz, rfl, rfl⟩
     | exact .q ⟨_, _, true, res (numS 0) (FB.z _ _) ⟨5, j, 0, 0⟩ _ hsz, rfl, rfl⟩
   ·
    conv => whnf
    refine bs (fun h1 => ?_) (fun h1 => ?_)
    ·
     conv => whnf
     repeat' first | (refine bs (fun h => ?_) (fun h => ?_) <;> conv => whnf) | (refine Nc.mk (by kernel_rfl) ?_; conv => whnf) | (refine .c (lx_zslope sl sh bl bh) ?_; conv => whnf) | (refine .mk (hi - 1).toNat (atL s.ls hi).D (by have := of_decide_eq_true ‹decide (hi > 0) = true›; rw [wr64 (by omega) (by omega)]; omega) (at_map (atL_some (of_decide_eq_true ‹decide (hi > 0) = true›) (by omega))) ?_; conv => whnf) | (refine .mk (lo - 1).toNat (atL s.ls lo).D (by have := of_decide_eq_true ‹decide (lo > 0) = true›; rw [wr64 (by omega) (by omega)]; omega) (at_map (atL_some (of_decide_eq_true ‹decide (lo > 0) = true›) (by omega))) ?_; conv => whnf) | (refine .c (key0) ?_; conv => whnf) | (refine .c (key1 p hpb) ?_; conv => whnf) | (refine .c (keyp ⟨5, j, 0, 0⟩) ?_; conv => whnf) | (refine .c (keyp ⟨6, j, 0, 0⟩) ?_; conv => whnf)
     all_goals first
      | exact .q ⟨_, _, true, res p hpb ⟨6, j, 0, 0⟩ _ hsz, rfl, rfl⟩
      | exact .q ⟨_, _, true, res (numS 0) (FB.z _ _) ⟨5, j, 0, 0⟩ _ hsz, rfl, rfl⟩
    ·
     conv => whnf
     refine bs (fun h2 => ?_) (fun h2 => ?_)
     ·
      conv => whnf
      exact .mk _ [] ⟨numS 0, [], false, ⟨FB.z _ _, fun m hm => (by cases hm), by simp⟩, rfl, rfl⟩ (WkV.tup ⟨by show All2 WkA _ (numS 0).A; rw [numS0_A]; exact ⟨WkA.nil, aR_ _, aR_ _, aR_ _, trivial⟩, WkA.nil, aR_ _, trivial⟩) rfl trivial rfl
     ·
      conv => whnf
      refine bs (fun h3 => ?_) (fun h3 => ?_)
      ·
       conv => whnf
       exact .mk _ [] ⟨numS 0, [], false, ⟨FB.z _ _, fun m hm => (by cases hm), by simp⟩, rfl, rfl⟩ (WkV.tup ⟨by show All2 WkA _ (numS 0).A; rw [numS0_A]; exact ⟨WkA.nil, aR_ _, aR_ _, aR_ _, trivial⟩, WkA.nil, aR_ _, trivial⟩) rfl trivial rfl
      ·
       conv => whnf
       have p1 := pos_of h2 k1
       have p2 := pos_of h3 k3
       have a3 := hof hf0 (by omega)
       have a4 := hon ho (by omega)
       have hun : unB (vAt s.ls lo) (vAt s.ls hi) = true := by simp [unB, a3, a4]
       have b1 := bb1 (by omega)
       have b2 := bb2 (by omega)
       have hne := un_ne hun
       have bsl := b2.div (b2.sub b1) hne
       have bgp : Bt (4 * B + 1) (gapQ (vAt s.ls lo) (vAt s.ls hi)) := by
        rw [gapQ, if_pos hun]; exact ((b1.mul b2).neg.div (b2.sub b1) hne).mono (by omega)
       have hby := FB.by hpf b1 b2 hun
       have bsz := hcb.rabs.div (b2.sub b1) hne
       have bszz : Bt (F + 2 * B + 1) (rabs c / (vAt s.ls hi - vAt s.ls lo)) := bsz.mono (by omega)
       refine .mk ((lo - 1).toNat) ((atL s.ls lo).D) (by rw [wr64 (by omega) (by omega)]; omega) (at_map (atL_some p1 (by omega))) ?_
       conv => whnf
       conv => whnf
       refine .mk ((hi - 1).toNat) ((atL s.ls hi).D) (by rw [wr64 (by omega) (by omega)]; omega) (at_map (atL_some p2 (by omega))) ?_
       conv => whnf
       conv => whnf
       refine .mk (by kernel_rfl) ?_
       conv => whnf
       refine .c (lx_zlines sl sh bl bh hun) ?_
       conv => whnf
       refine .c (lx_scale hpf bsl (by omega) (by omega) (by omega)) ?_
       conv => whnf
       refine .c (lx_num (bgp.mono (by omega))) ?_
       conv => whnf
       refine .c (lx_add (hpf.scale bsl) (FB.num bgp) (by omega) (by omega) (by omega)) ?_
       conv => whnf
       refine .mk (by kernel_rfl) ?_
       conv => whnf
       refine .c (lx_zsub sh.rq sl.rq) ?_
       conv => whnf
       rw [rabs_A]
       refine .c (lx_zdiv hne (.c (hcb.rabs.mono (by omega))) (.c ((b2.sub b1).mono (by omega)))) ?_
       conv => whnf
       refine .mk (by kernel_rfl) ?_
       conv => whnf
       refine .c (key1 (byS p (vAt s.ls lo) (vAt s.ls hi)) hby) ?_
       conv => whnf
       refine .c (lx_mplus (r := ⟨13, j, lo, hi⟩) hl bszz (by omega) (by omega)) ?_
       conv => whnf
       refine .mk (by kernel_rfl) ?_
       conv => whnf
       exact .q ⟨_, _, true, res _ hby ⟨13, j, lo, hi⟩ _ bszz, rfl, rfl⟩
theorem lx_back {s : Sp} {f : Af} {J B : Nat} (hs : SpOk s) (hq : QuB s.q) (hL : LsB s J B) (hJ : J < s.q.g.us.length) (hf : FB 5 (s.q.g.n + J : Nat) f) (hB : B ≤ 700000) :
  ∃ (g : Af) (l : List Mu) (ok : Bool), (FB (gB B J) (s.q.g.n + J : Nat) g ∧ MuB 100000000 l ∧ l.length ≤ 3) ∧ LV Tryz.prog 188 [.agg s.A, .agg f.A] (.tup [.g g.A, .s (.d (musD l)), .s (.d (.lit (.bool ok)))]) := by
 suffices hh : LX Tryz.prog 188 [.agg s.A, .agg f.A] [] fun v H => ∃ (g : Af) (l : List Mu) (ok : Bool), (FB (gB B J) (s.q.g.n + J : Nat) g ∧ MuB 100000000 l ∧ l.length ≤ 3) ∧ v = .tup [.g g.A, .s (.d (musD l)), .s (.d (.lit (.bool ok)))] ∧ H = [] by
  obtain ⟨v, H', ⟨x, l, ok, h1, rfl, rfl⟩, hc⟩ := hh
  exact ⟨x, l, ok, h1, _, _, ⟨rfl, rfl⟩, hc⟩
 have hn3 := hq.g.n2; have hu4 := hq.g.u1
 refine LX_run (m := 0) (n0 := 0) mix Tryz.func188 rfl rfl rfl rfl ?_
 conv => whnf
 refine .c (lx_zquvalid hs.q) ?_
 conv => whnf
 refine .c (lx_zgvars hs.q.g) ?_
 conv => whnf
 refine .c (lx_zlvalid ((hf.up (n' := ((s.q.g.n + s.q.g.us.length : Nat) : Int)) (lR_ _) (by omega)).ok (by omega) (by omega) (by omega))) ?_
 conv => whnf
 refine .mk (by kernel_rfl) ?_
 conv => whnf
 refine .mk (Nat × Af × List Mu) (fun (m, g, l) => ⟨[(9, vl (.int .i64 ((m : Int) - 1))), (7, .a (.d (musD l))), (4, .a (.ptr 2 0)), (3, .a (.ptr 1 0)), (2, .a (.ptr 0 0))], [(0, .box 43 s.A), (1, .box 39 g.A), (2, .box 39 [.d (.lit (.slice none 0 0)), .d (.lit (.bool false)), .d (.nat 0), .d (.nat 0)])], 3⟩)
  (fun b => b.1 ≤ s.q.g.us.length ∧ FB (gB B (J - b.1)) (s.q.g.n + J : Nat) b.2.1 ∧ MuB ((J - b.1) * (14 * B + 60)) b.2.2 ∧ b.2.2.length ≤ J - b.1) (fun b => b.1) (s.q.g.us.length, f, []) ?_ ⟨lR_ _, by rw [show J - s.q.g.us.length = 0 by omega]; exact hf, fun m hm => (by cases hm), zL_ _⟩ fun ⟨m, g, l⟩ hb => ?_
 ·
  exact Wk.of ⟨⟨_, rfl, WkV.int (by rw [wr64 (by simp; omega) (by simp; omega)]; simp), rfl⟩, ⟨_, rfl, WkV.of WkA.nil, rfl⟩, ⟨_, rfl, vR_ _, rfl⟩, ⟨_, rfl, vR_ _, rfl⟩, ⟨_, rfl, vR_ _, rfl⟩, trivial⟩ ⟨⟨_, rfl, wke_refl _, rfl⟩, ⟨_, rfl, wke_refl _, rfl⟩, ⟨_, rfl, wke_refl _, rfl⟩, trivial⟩ rfl
 obtain ⟨hm, hg, hK, hln⟩ := hb
 simp only at hm hg hK hln
 conv => whnf
 refine bs (fun h1 => ?_) (fun h1 => ?_)
 ·
  conv => whnf
  have h1' : 1 ≤ m := by have := of_decide_eq_true h1; omega
  have em : (m : Int) - 1 = ((m - 1 : Nat) : Int) := by omega
  have hwj : IntKind.i64.wrap (((m - 1 : Nat) : Int) - 1) = ((m - 1 : Nat) : Int) - 1 := wr64 (by omega) (by omega)
  rw [em]
  rcases Nat.lt_or_ge (m - 1) J with hj | hj
  ·
   have hgl := gB_le2 B (m := J - m) (by omega)
   have hmK : (J - m) * (14 * B + 60) ≤ 3 * (14 * B + 60) := Nat.mul_le_mul_right _ (by omega)
   have eJ : J - (m - 1) = (J - m) + 1 := by omega
   have e9 : (J - m + 1) * (14 * B + 60) = (J - m) * (14 * B + 60) + (14 * B + 60) := by rw [Nat.add_mul (J - m) 1, Nat.one_mul]
   obtain ⟨g', l', ok, ⟨o1, o2, o3⟩, c1⟩ := lx_replace1 hs hq hL hj (Nat.le_of_lt hJ) hB hg (by omega) hK (by omega) (by omega)
   refine .c (c1) ?_
   conv => whnf
   cases ok
   ·
    conv => whnf
    exact .mk _ [] ⟨numS 0, [], false, ⟨FB.z _ _, fun m hm => (by cases hm), by simp⟩, rfl, rfl⟩ (WkV.tup ⟨by show All2 WkA _ (numS 0).A; rw [numS0_A]; exact ⟨WkA.nil, aR_ _, aR_ _, aR_ _, trivial⟩, WkA.nil, aR_ _, trivial⟩) rfl trivial rfl
   ·
    conv => whnf
    rw [hwj]
    refine ⟨(m - 1, g', l'), Wk.go, ⟨(show m - 1 ≤ _ by omega), ?_, ?_, ?_⟩, (show m - 1 < m by omega)⟩
    ·
     show FB (gB B (J - (m - 1))) _ _
     rw [eJ]; exact o1
    ·
     show MuB ((J - (m - 1)) * (14 * B + 60)) _
     rw [eJ]; exact o2.up (by rw [e9]; omega)
    ·
     show l'.length ≤ J - (m - 1)
     omega
  ·
   have hz : cof g.ts (s.q.g.n + (m - 1) : Nat) = 0 := hg.ts.cof_ge (by omega)
   have eJ : J - (m - 1) = J - m := by omega
   refine .c (lx_replace0 hs (show m - 1 < s.q.g.us.length by omega) hg (by omega) (by omega) hz) ?_
   conv => whnf
   rw [hwj]
   exact ⟨(m - 1, g, l), Wk.go, ⟨(show m - 1 ≤ _ by omega), (show FB (gB B (J - (m - 1))) _ _ by rw [eJ]; exact hg), (show MuB ((J - (m - 1)) * (14 * B + 60)) _ by rw [eJ]; exact hK), (show l.length ≤ J - (m - 1) by omega)⟩, (show m - 1 < m by omega)⟩
 ·
  conv => whnf
  have e : m = 0 := by have := of_decide_eq_false h1; omega
  subst e
  have hmK : (J - 0) * (14 * B + 60) ≤ 3 * (14 * B + 60) := Nat.mul_le_mul_right _ (by omega)
  exact .q ⟨g, l, true, ⟨hg, hK.up (by omega), by omega⟩, rfl, rfl⟩
theorem lx_ylower {s : Sp} {f : Af} {J B : Nat} (hs : SpOk s) (hq : QuB s.q) (hL : LsB s J B) (hJ : J < s.q.g.us.length) (hP : ∀ d ∈ s.path, Bt 11 d.at_.q) (hf : FB 5 (s.q.g.n + J : Nat) f) (hB : B ≤ 700000) :
  ∃ (x : Rat) (l : List Mu) (ok : Bool), (Bt (gB B J + (3 + J) * (gB B J + B + 17)) x ∧ MuB 3000000000 l ∧ l.length ≤ 1000) ∧ LV Tryz.prog 146 [.agg s.A, .agg f.A] (.tup [.g (can x).A, .s (.d (musD l)), .s (.d (.lit (.bool ok)))]) := by
 suffices hh : LX Tryz.prog 146 [.agg s.A, .agg f.A] [] fun v H => ∃ (x : Rat) (l : List Mu) (ok : Bool), (Bt (gB B J + (3 + J) * (gB B J + B + 17)) x ∧ MuB 3000000000 l ∧ l.length ≤ 1000) ∧ v = .tup [.g (can x).A, .s (.d (musD l)), .s (.d (.lit (.bool ok)))] ∧ H = [] by
  obtain ⟨v, H', ⟨x, l, ok, h1, rfl, rfl⟩, hc⟩ := hh
  exact ⟨x, l, ok, h1, _, _, ⟨rfl, rfl⟩, hc⟩
 have hu4 := hq.g.u1
 obtain ⟨g, l, ok, ⟨k1, k2, k3⟩, c1⟩ := lx_back hs hq hL hJ hf hB
 have hgb := gB_le B (m := J) (by omega)
 obtain ⟨x, m, ok2, ⟨k4, k5, k6⟩, c2⟩ := lx_blower hs hq hL hJ hP k1 hB (by omega)
 have hmul : m.length * (9 * (gB B J + 3 * B + 3) + 0 + 1) ≤ 9 * (9 * (gB B J + 3 * B + 3) + 0 + 1) := Nat.mul_le_mul_right _ k6
 cases ok
 ·
  refine LX_run (m := 0) (n0 := 0) mix Tryz.func146 rfl rfl rfl rfl ?_
  conv => whnf
  refine .c (c1) ?_
  conv => whnf
  exact .mk _ [] ⟨0, [], false, ⟨bt0 _, fun m hm => (by cases hm), by simp⟩, rfl, rfl⟩ (WkV.tup ⟨by show All2 WkA _ (can 0).A; rw [can0]; exact ⟨aR_ _, aR_ _, aR_ _, trivial⟩, WkA.nil, aR_ _, trivial⟩) rfl trivial rfl
 ·
  cases ok2
  all_goals refine LX_run (m := 0) (n0 := 0) mix Tryz.func146 rfl rfl rfl rfl ?_
            conv => whnf
  all_goals refine .c (c1) ?_
            conv => whnf
  all_goals refine .c (c2) ?_
            conv => whnf
  all_goals refine .c (lx_zofp) ?_
            conv => whnf
  all_goals refine .c (lx_merge k2 k5 q1_b (by omega) (by omega)) ?_
            conv => whnf
  all_goals refine .mk (by kernel_rfl) ?_
            conv => whnf
  all_goals exact .q ⟨x, mgS l m q1, true, ⟨k4, (mgTo_b k2 k5 q1_b m.length (lR_ _)).1.up (by omega), by have := (mgTo_b k2 k5 q1_b m.length (lR_ _)).2; rw [← mgS] at this; omega⟩, rfl, rfl⟩
theorem lx_yof {s : Sp} {f : Af} {J B : Nat} {z : Int} (hs : SpOk s) (hq : QuB s.q) (hL : LsB s J B) (hJ : J < s.q.g.us.length) (hP : ∀ d ∈ s.path, Bt 11 d.at_.q) (hf : FB 5 (s.q.g.n + J : Nat) f) (hB : B ≤ 700000) :
  ∃ (x : Rat) (l : List Mu) (ok : Bool), (Bt (gB B J + (3 + J) * (gB B J + B + 17)) x ∧ MuB 3000000000 l ∧ l.length ≤ 1000) ∧ LV Tryz.prog 101 [vl (.int .i64 z), .agg s.A, .agg f.A] (.tup [.g (can x).A, .s (.d (musD l)), .s (.d (.lit (.bool ok)))]) := by
 suffices hh : LX Tryz.prog 101 [vl (.int .i64 z), .agg s.A, .agg f.A] [] fun v H => ∃ (x : Rat) (l : List Mu) (ok : Bool), (Bt (gB B J + (3 + J) * (gB B J + B + 17)) x ∧ MuB 3000000000 l ∧ l.length ≤ 1000) ∧ v = .tup [.g (can x).A, .s (.d (musD l)), .s (.d (.lit (.bool ok)))] ∧ H = [] by
  obtain ⟨v, H', ⟨x, l, ok, h1, rfl, rfl⟩, hc⟩ := hh
  exact ⟨x, l, ok, h1, _, _, ⟨rfl, rfl⟩, hc⟩
 have hu4 := hq.g.u1
 have hg5 : 5 ≤ gB B J := gB_mono B (zL_ J)
 have hgb := gB_le B (m := J) (by omega)
 have hm1 : (3 + J) * (5 + B + 17) ≤ (3 + J) * (gB B J + B + 17) := Nat.mul_le_mul_left _ (by omega)
 have hm2 : (3 + J) * (gB B J + B + 17) ≤ 6 * (gB B J + B + 17) := Nat.mul_le_mul_right _ (by omega)
 obtain ⟨x, l, ok, ⟨k1, k2, k3⟩, c1⟩ := lx_blower hs hq hL hJ hP hf hB (by omega)
 obtain ⟨y, m, is, ⟨k4, k5, k6⟩, c2⟩ := lx_ylower hs hq hL hJ hP hf hB
 have r1 : ∃ (x' : Rat) (l' : List Mu) (ok' : Bool), (Bt (gB B J + (3 + J) * (gB B J + B + 17)) x' ∧ MuB 3000000000 l' ∧ l'.length ≤ 1000) ∧ V.tup [.g (can x).A, .s (.d (musD l)), .s (.d (.lit (.bool ok)))] = V.tup [.g (can x').A, .s (.d (musD l')), .s (.d (.lit (.bool ok')))] ∧ ([] : List (Nat × Ent)) = [] :=
  ⟨x, l, ok, ⟨k1.mono (by omega), k2.up (by omega), by omega⟩, rfl, rfl⟩
 have r2 : ∃ (x' : Rat) (l' : List Mu) (ok' : Bool), (Bt (gB B J + (3 + J) * (gB B J + B + 17)) x' ∧ MuB 3000000000 l' ∧ l'.length ≤ 1000) ∧ V.tup [.g (can y).A, .s (.d (musD m)), .s (.d (.lit (.bool is)))] = V.tup [.g (can x').A, .s (.d (musD l')), .s (.d (.lit (.bool ok')))] ∧ ([] : List (Nat × Ent)) = [] :=
  ⟨y, m, is, ⟨k4, k5, k6⟩, rfl, rfl⟩
 cases ok <;> cases is
 all_goals refine LX_run (m := 0) (n0 := 0) mix Tryz.func101 rfl rfl rfl rfl ?_
           conv => whnf
 all_goals refine .c (c1) ?_
           conv => whnf
 all_goals refine .c (c2) ?_
           conv => whnf
 all_goals repeat' first | (refine bs (fun h => ?_) (fun h => ?_) <;> conv => whnf) | (refine Nc.mk (by kernel_rfl) ?_; conv => whnf) | (refine .c (lx_zcmp (.c (k1.mono (by omega))) (.c (k4.mono (by omega)))) ?_; conv => whnf)
 all_goals first
  | exact .q r1
  | exact .q r2
theorem lx_zround {x : Rat} {up : Bool} (h : Sz x) : LV Tryz.prog 102 [.agg (can x).A, vl (.int .i64 0), vl (.bool up)] (ratV x) := by
 refine LX_run (m := 0) (n0 := 0) mix Tryz.func102 rfl rfl rfl rfl ?_
 conv => whnf
 refine .c (lx_zcanon (.c h)) ?_
 conv => whnf
 exact .q ⟨rfl, rfl⟩
theorem lx_zstronger {s : Sp} {m : Lm} (hs : SpOk s) (hm : m.v.sm) : ∃ b, LV Tryz.prog 103 [.agg s.A, .agg m.A] (vl (.bool b)) := by
 suffices hh : LX Tryz.prog 103 [.agg s.A, .agg m.A] [] fun v H => ∃ b, v = vl (.bool b) ∧ H = [] by
  obtain ⟨v, H', ⟨b, rfl, rfl⟩, hc⟩ := hh
  exact ⟨b, _, _, ⟨rfl, rfl⟩, hc⟩
 have hl := hs.ll
 have hle := bestTo_le s.ls m.u s.ls.length
 have e : bestS s m.u = bestTo s.ls m.u s.ls.length := rfl
 rw [← e] at hle
 obtain ⟨k1, k2, k3, k4⟩ := hle
 obtain ⟨u, up, mv, mp⟩ := m
 simp only at hm k1 k2 k3 k4
 cases up
 all_goals refine LX_run (m := 0) (n0 := 0) mix Tryz.func103 rfl rfl rfl rfl ?_
           conv => whnf
 all_goals refine .c (lx_zbest hs) ?_
           conv => whnf
 all_goals generalize (bestS s u).1 = lo at *
 all_goals generalize (bestS s u).2 = hi at *
 all_goals (repeat' first | (refine bs (fun h => ?_) (fun h => ?_) <;> conv => whnf) | (refine Nc.mk (by kernel_rfl) ?_; conv => whnf) | (refine .c (lx_zcmp hm.rq (atL_sm hs.ln _).rq) ?_; conv => whnf) | (refine .mk (hi - 1).toNat (atL s.ls hi).D (by rw [wr64 (by omega) (by omega)]; have := pos_of ‹(hi == 0) = false› k3; omega) (at_map (atL_some (pos_of ‹(hi == 0) = false› k3) (by omega))) ?_; conv => whnf) | (refine .mk (lo - 1).toNat (atL s.ls lo).D (by rw [wr64 (by omega) (by omega)]; have := pos_of ‹(lo == 0) = false› k1; omega) (at_map (atL_some (pos_of ‹(lo == 0) = false› k1) (by omega))) ?_; conv => whnf))
 all_goals exact .q ⟨_, rfl, rfl⟩
theorem Sz.neg {a : Rat} (h : Sz a) : Sz (-a) := Bt.neg h
theorem lx_zrun {q : Qu} {P : List Dc} {L0 : List Lm} {z : Int} (hq : QuB q) (hp : P.length ≤ 1000) (hs : ∀ d ∈ P, d.at_.sm) (hb : ∀ d ∈ P, Bt 11 d.at_.q) (hlm0 : LmsOk q.g.us.length L0) (hln0 : L0.length ≤ 8) :
  ∃ ls', (LmsOk q.g.us.length ls' ∧ ls'.length ≤ 16) ∧ LV Tryz.prog 53 [vl (.int .i64 z), .agg (Sp.A ⟨q, P, L0⟩), vl (.int .i64 0)] (.tup [.g (Sp.A ⟨q, P, ls'⟩), .s (.d (.lit (.int .i64 0)))]) := by
 suffices hh : LX Tryz.prog 53 [vl (.int .i64 z), .agg (Sp.A ⟨q, P, L0⟩), vl (.int .i64 0)] [] fun v H => ∃ ls', (LmsOk q.g.us.length ls' ∧ ls'.length ≤ 16) ∧ v = .tup [.g (Sp.A ⟨q, P, ls'⟩), .s (.d (.lit (.int .i64 0)))] ∧ H = [] by
  obtain ⟨v, H', ⟨ls', h1, rfl, rfl⟩, hc⟩ := hh
  exact ⟨ls', h1, _, _, ⟨rfl, rfl⟩, hc⟩
 have hu4 := hq.g.u1
 refine LX_run (m := 0) (n0 := 0) mix Tryz.func53 rfl rfl rfl rfl ?_
 conv => whnf
 refine .c (lx_zquvalid hq.ok) ?_
 conv => whnf
 refine .mk (L0.map Lm.D) rfl rfl (by simp; omega) ?_
 conv => whnf
 refine .mk (by kernel_rfl) ?_
 conv => whnf
 refine .mk (Nat × List Lm) (fun (j, ls) => ⟨[(9, vl (.int .i64 (j : Nat))), (8, .a (.ptr 4 0)), (6, .a (.ptr 1 0)), (4, .a (.ptr 0 0)), (2, vl (.int .i64 0)), (0, vl (.int .i64 z))], [(0, .box 43 (Sp.A ⟨q, P, L0⟩)), (1, .box 43 [.d (.lit (.int .i64 0)), .d (.lit (.slice none 0 0)), .d (.lit (.slice none 0 0)), .d (.lit (.slice none 0 0)), .d (.lit (.slice none 0 0)), .d (.lit (.slice none 0 0)), .d (.lit (.slice none 0 0)), .d (.lit (.bool false)), .d (.nat 0), .d (.nat 0), .d (.lit (.slice none 0 0)), .d (.lit (.slice none 0 0))]), (4, .box 43 (q.A ++ [.d (dcsD P), .own 2 6 (ls.map Lm.D)])), (2, .arr 69 6 (ls.map Lm.D).length)], 5⟩)
  (fun b => b.1 ≤ q.g.us.length ∧ LmsOk q.g.us.length b.2 ∧ b.2.length ≤ 8 + 2 * b.1) (fun b => q.g.us.length - b.1) (0, L0) Wk.go ⟨zL_ _, hlm0, by simp only; omega⟩ fun ⟨j, ls⟩ hb0 => ?_
 obtain ⟨hj, hlm, hln⟩ := hb0
 simp only at hj hlm hln
 conv => whnf
 refine bs (fun h1 => ?_) (fun h1 => ?_)
 ·
  conv => whnf
  have h1' : j < q.g.us.length := by simpa using h1
  obtain ⟨p, hpj⟩ := at_some h1'
  have hf := hq.g.us j p hpj
  have hsp := LmsOk.sp hq (by omega) hs (fun d hd => (hb d hd).mono (by decide)) hlm (by omega)
  obtain ⟨B, b1, b2, b3⟩ := run_beta (J := j) (by omega)
  obtain ⟨x, l1, ok1, ⟨x1, w1, w2⟩, c1⟩ := lx_yof (s := ⟨q, P, ls⟩) (z := z) hsp hq (hlm.lsB j b2) h1' hb hf b1
  have hx1 : Bt (beta j) x := x1.mono b3
  have xz : Sz x := hx1.mono (tL_ (beta_le _) (by decide))
  obtain ⟨b, c0⟩ := lx_zstronger (s := ⟨q, P, ls⟩) (m := ⟨j, false, can x, l1.map Mu.D⟩) hsp (Sz.sm xz)
  cases ok1
  ·
   refine .mk (j) (p.D) (rfl) (at_map hpj) ?_
   conv => whnf
   conv => whnf
   refine .c (c1) ?_
   conv => whnf
   refine .c (lx_zround (up := false) xz) ?_
   conv => whnf
   obtain ⟨y, l2, ok2, ⟨y1, w3, w4⟩, c2⟩ := lx_yof (s := ⟨q, P, ls⟩) (z := z) (LmsOk.sp hq (by omega) hs (fun d hd => (hb d hd).mono (by decide)) (hlm) (by first | omega | (simp; omega))) hq ((hlm).lsB j b2) h1' hb (hf.scale m1_b) b1
   have hy1 : Bt (beta j) (-y) := (y1.mono b3).neg
   have yz : Sz y := (y1.mono b3).mono (tL_ (beta_le _) (by decide))
   obtain ⟨b', c3⟩ := lx_zstronger (s := ⟨q, P, ls⟩) (m := ⟨j, true, can (-y), l2.map Mu.D⟩) (LmsOk.sp hq (by omega) hs (fun d hd => (hb d hd).mono (by decide)) (hlm) (by first | omega | (simp; omega))) (Sz.sm (yz.neg))
   cases ok2
   ·
    refine .c (lx_zofm) ?_
    conv => whnf
    refine .c (lx_scale hf m1_b (by omega) (by have := hq.g.n2; omega) (by omega)) ?_
    conv => whnf
    refine .c (c2) ?_
    conv => whnf
    refine .mk (by kernel_rfl) ?_
    conv => whnf
    refine .c (lx_zneg (.c yz)) ?_
    conv => whnf
    refine .c (lx_zround (up := true) yz.neg) ?_
    conv => whnf
    exact ⟨(j + 1, ls), Wk.go, ⟨h1', hlm, by simp; omega⟩, by simp only; omega⟩
   ·
    cases b'
    ·
     refine .c (lx_zofm) ?_
     conv => whnf
     refine .c (lx_scale hf m1_b (by omega) (by have := hq.g.n2; omega) (by omega)) ?_
     conv => whnf
     refine .c (c2) ?_
     conv => whnf
     refine .mk (by kernel_rfl) ?_
     conv => whnf
     refine .c (lx_zneg (.c yz)) ?_
     conv => whnf
     refine .c (lx_zround (up := true) yz.neg) ?_
     conv => whnf
     refine .c (c3) ?_
     conv => whnf
     exact ⟨(j + 1, ls), Wk.go, ⟨h1', hlm, by simp; omega⟩, by simp only; omega⟩
    ·
     refine .c (lx_zofm) ?_
     conv => whnf
     refine .c (lx_scale hf m1_b (by omega) (by have := hq.g.n2; omega) (by omega)) ?_
     conv => whnf
     refine .c (c2) ?_
     conv => whnf
     refine .mk (by kernel_rfl) ?_
     conv => whnf
     refine .c (lx_zneg (.c yz)) ?_
     conv => whnf
     refine .c (lx_zround (up := true) yz.neg) ?_
     conv => whnf
     refine .c (c3) ?_
     conv => whnf
     refine .mk ((ls ++ [(⟨j, true, can (-y), l2.map Mu.D⟩ : Lm)]).map Lm.D) rfl (by rw [List.map_append (l₁ := ls)]; rfl) (by simp; omega) ?_
     conv => whnf
     exact ⟨(j + 1, ls ++ [(⟨j, true, can (-y), l2.map Mu.D⟩ : Lm)]), Wk.go, ⟨h1', (hlm).snoc h1' hy1 ⟨w3, w4⟩, by simp; omega⟩, by simp only; omega⟩
  ·
   cases b
   ·
    refine .mk (j) (p.D) (rfl) (at_map hpj) ?_
    conv => whnf
    conv => whnf
    refine .c (c1) ?_
    conv => whnf
    refine .c (lx_zround (up := false) xz) ?_
    conv => whnf
    refine .c (c0) ?_
    conv => whnf
    obtain ⟨y, l2, ok2, ⟨y1, w3, w4⟩, c2⟩ := lx_yof (s := ⟨q, P, ls⟩) (z := z) (LmsOk.sp hq (by omega) hs (fun d hd => (hb d hd).mono (by decide)) (hlm) (by first | omega | (simp; omega))) hq ((hlm).lsB j b2) h1' hb (hf.scale m1_b) b1
    have hy1 : Bt (beta j) (-y) := (y1.mono b3).neg
    have yz : Sz y := (y1.mono b3).mono (tL_ (beta_le _) (by decide))
    obtain ⟨b', c3⟩ := lx_zstronger (s := ⟨q, P, ls⟩) (m := ⟨j, true, can (-y), l2.map Mu.D⟩) (LmsOk.sp hq (by omega) hs (fun d hd => (hb d hd).mono (by decide)) (hlm) (by first | omega | (simp; omega))) (Sz.sm (yz.neg))
    cases ok2
    ·
     refine .c (lx_zofm) ?_
     conv => whnf
     refine .c (lx_scale hf m1_b (by omega) (by have := hq.g.n2; omega) (by omega)) ?_
     conv => whnf
     refine .c (c2) ?_
     conv => whnf
     refine .mk (by kernel_rfl) ?_
     conv => whnf
     refine .c (lx_zneg (.c yz)) ?_
     conv => whnf
     refine .c (lx_zround (up := true) yz.neg) ?_
     conv => whnf
     exact ⟨(j + 1, ls), Wk.go, ⟨h1', hlm, by simp; omega⟩, by simp only; omega⟩
    ·
     cases b'
     ·
      refine .c (lx_zofm) ?_
      conv => whnf
      refine .c (lx_scale hf m1_b (by omega) (by have := hq.g.n2; omega) (by omega)) ?_
      conv => whnf
      refine .c (c2) ?_
      conv => whnf
      refine .mk (by kernel_rfl) ?_
      conv => whnf
      refine .c (lx_zneg (.c yz)) ?_
      conv => whnf
      refine .c (lx_zround (up := true) yz.neg) ?_
      conv => whnf
      refine .c (c3) ?_
      conv => whnf
      exact ⟨(j + 1, ls), Wk.go, ⟨h1', hlm, by simp; omega⟩, by simp only; omega⟩
     ·
      refine .c (lx_zofm) ?_
      conv => whnf
      refine .c (lx_scale hf m1_b (by omega) (by have := hq.g.n2; omega) (by omega)) ?_
      conv => whnf
      refine .c (c2) ?_
      conv => whnf
      refine .mk (by kernel_rfl) ?_
      conv => whnf
      refine .c (lx_zneg (.c yz)) ?_
      conv => whnf
      refine .c (lx_zround (up := true) yz.neg) ?_
      conv => whnf
      refine .c (c3) ?_
      conv => whnf
      refine .mk ((ls ++ [(⟨j, true, can (-y), l2.map Mu.D⟩ : Lm)]).map Lm.D) rfl (by rw [List.map_append (l₁ := ls)]; rfl) (by simp; omega) ?_
      conv => whnf
      exact ⟨(j + 1, ls ++ [(⟨j, true, can (-y), l2.map Mu.D⟩ : Lm)]), Wk.go, ⟨h1', (hlm).snoc h1' hy1 ⟨w3, w4⟩, by simp; omega⟩, by simp only; omega⟩
   ·
    refine .mk (j) (p.D) (rfl) (at_map hpj) ?_
    conv => whnf
    conv => whnf
    refine .c (c1) ?_
    conv => whnf
    refine .c (lx_zround (up := false) xz) ?_
    conv => whnf
    refine .c (c0) ?_
    conv => whnf
    have hlm1 : LmsOk q.g.us.length (ls ++ [(⟨j, false, can x, l1.map Mu.D⟩ : Lm)]) := hlm.snoc h1' hx1 ⟨w1, w2⟩
    refine .mk ((ls ++ [(⟨j, false, can x, l1.map Mu.D⟩ : Lm)]).map Lm.D) rfl (by rw [List.map_append]; rfl) (by simp; omega) ?_
    conv => whnf
    obtain ⟨y, l2, ok2, ⟨y1, w3, w4⟩, c2⟩ := lx_yof (s := ⟨q, P, (ls ++ [(⟨j, false, can x, l1.map Mu.D⟩ : Lm)])⟩) (z := z) (LmsOk.sp hq (by omega) hs (fun d hd => (hb d hd).mono (by decide)) (hlm1) (by simp; omega)) hq ((hlm1).lsB j b2) h1' hb (hf.scale m1_b) b1
    have hy1 : Bt (beta j) (-y) := (y1.mono b3).neg
    have yz : Sz y := (y1.mono b3).mono (tL_ (beta_le _) (by decide))
    obtain ⟨b', c3⟩ := lx_zstronger (s := ⟨q, P, (ls ++ [(⟨j, false, can x, l1.map Mu.D⟩ : Lm)])⟩) (m := ⟨j, true, can (-y), l2.map Mu.D⟩) (LmsOk.sp hq (by omega) hs (fun d hd => (hb d hd).mono (by decide)) (hlm1) (by simp; omega)) (Sz.sm (yz.neg))
    cases ok2
    ·
     refine .c (lx_zofm) ?_
     conv => whnf
     refine .c (lx_scale hf m1_b (by omega) (by have := hq.g.n2; omega) (by omega)) ?_
     conv => whnf
     refine .c (c2) ?_
     conv => whnf
     refine .mk (by kernel_rfl) ?_
     conv => whnf
     refine .c (lx_zneg (.c yz)) ?_
     conv => whnf
     refine .c (lx_zround (up := true) yz.neg) ?_
     conv => whnf
     exact ⟨(j + 1, (ls ++ [(⟨j, false, can x, l1.map Mu.D⟩ : Lm)])), Wk.go, ⟨h1', hlm1, by simp; omega⟩, by simp only; omega⟩
    ·
     cases b'
     ·
      refine .c (lx_zofm) ?_
      conv => whnf
      refine .c (lx_scale hf m1_b (by omega) (by have := hq.g.n2; omega) (by omega)) ?_
      conv => whnf
      refine .c (c2) ?_
      conv => whnf
      refine .mk (by kernel_rfl) ?_
      conv => whnf
      refine .c (lx_zneg (.c yz)) ?_
      conv => whnf
      refine .c (lx_zround (up := true) yz.neg) ?_
      conv => whnf
      refine .c (c3) ?_
      conv => whnf
      exact ⟨(j + 1, (ls ++ [(⟨j, false, can x, l1.map Mu.D⟩ : Lm)])), Wk.go, ⟨h1', hlm1, by simp; omega⟩, by simp only; omega⟩
     ·
      refine .c (lx_zofm) ?_
      conv => whnf
      refine .c (lx_scale hf m1_b (by omega) (by have := hq.g.n2; omega) (by omega)) ?_
      conv => whnf
      refine .c (c2) ?_
      conv => whnf
      refine .mk (by kernel_rfl) ?_
      conv => whnf
      refine .c (lx_zneg (.c yz)) ?_
      conv => whnf
      refine .c (lx_zround (up := true) yz.neg) ?_
      conv => whnf
      refine .c (c3) ?_
      conv => whnf
      refine .mk (((ls ++ [(⟨j, false, can x, l1.map Mu.D⟩ : Lm)]) ++ [(⟨j, true, can (-y), l2.map Mu.D⟩ : Lm)]).map Lm.D) rfl (by rw [List.map_append (l₁ := (ls ++ [(⟨j, false, can x, l1.map Mu.D⟩ : Lm)]))]; rfl) (by simp; omega) ?_
      conv => whnf
      exact ⟨(j + 1, (ls ++ [(⟨j, false, can x, l1.map Mu.D⟩ : Lm)]) ++ [(⟨j, true, can (-y), l2.map Mu.D⟩ : Lm)]), Wk.go, ⟨h1', (hlm1).snoc h1' hy1 ⟨w3, w4⟩, by simp; omega⟩, by simp only; omega⟩
 ·
  conv => whnf
  have e : j = q.g.us.length := by simp at h1; omega
  subst e
  exact .s ⟨ls, ⟨hlm, by omega⟩, rfl, rfl⟩
def sumT (raw : List Nat) (i : Nat) : Nat := (raw.take i).sum
theorem sumT_succ {raw : List Nat} {i b : Nat} (h : raw[i]? = some b) : sumT raw (i + 1) = sumT raw i + b := by
 unfold sumT
 rw [take_snoc h, List.sum_append]; simp
theorem sumT_le {raw : List Nat} (h : RawOk raw) (i : Nat) : sumT raw i ≤ 255 * i := by
 induction i with
 | zero => simp [sumT]
 | succ i ih =>
   rcases Nat.lt_or_ge i raw.length with hi | hi
   ·
    obtain ⟨b, hb⟩ := at_some hi
    have := h.by_ b (mG_ hb)
    rw [sumT_succ hb]; omega
   ·
    have : sumT raw (i + 1) = sumT raw i := by rw [sumT, sumT, List.take_of_length_le (by omega), List.take_of_length_le (by omega)]
    omega
abbrev zSp : List A := [.d (.lit (.int .i64 0)), .d (.lit (.slice none 0 0)), .d (.lit (.slice none 0 0)), .d (.lit (.slice none 0 0)), .d (.lit (.slice none 0 0)), .d (.lit (.slice none 0 0)), .d (.lit (.slice none 0 0)), .d (.lit (.bool false)), .d (.nat 0), .d (.nat 0), .d (.lit (.slice none 0 0)), .d (.lit (.slice none 0 0))]
theorem lx_xextend {raw : List Nat} (h : RawOk raw) : ∃ (q : Qu) (P : List Dc) (ls : List Lm), (QuB q ∧ PartI q P ∧ P.length ≤ 3 ∧ LmsOk q.g.us.length ls ∧ ls.length ≤ 8) ∧ LV Tryz.prog 52 [.a (.d (bysD raw))] (.agg (Sp.A ⟨q, P, ls⟩)) := by
 suffices hh : LX Tryz.prog 52 [.a (.d (bysD raw))] [] fun v H => ∃ (q : Qu) (P : List Dc) (ls : List Lm), (QuB q ∧ PartI q P ∧ P.length ≤ 3 ∧ LmsOk q.g.us.length ls ∧ ls.length ≤ 8) ∧ v = .agg (Sp.A ⟨q, P, ls⟩) ∧ H = [] by
  obtain ⟨v, H', ⟨q, P, ls, h1, rfl, rfl⟩, hc⟩ := hh
  exact ⟨q, P, ls, h1, _, _, ⟨rfl, rfl⟩, hc⟩
 have hrl := h.len
 obtain ⟨q, P, hq, hP, hl, c⟩ := lx_part h
 obtain ⟨ls, o1, o2, c2⟩ := lx_bounded hq (by omega) hP.sm fun d hd => (hP.bt d hd).mono (by decide)
 refine LX_run (m := 0) (n0 := 0) mix Tryz.func52 rfl rfl rfl rfl ?_
 conv => whnf
 refine .c (c) ?_
 conv => whnf
 refine .mk Nat (fun i => ⟨[(5, vl (.int .i64 (i : Nat))), (4, vl (.int .i64 (sumT raw i : Nat))), (3, .a (.ptr 1 0)), (2, .a (.ptr 0 0)), (0, .a (.d (bysD raw)))], [(0, .box 43 zSp), (1, .box 43 (Sp.A ⟨q, P, []⟩))], 2⟩) (fun i => i ≤ raw.length) (fun i => raw.length - i) 0 Wk.go (zL_ _) fun i hi => ?_
 conv => whnf
 conv => whnf
 have hsl := sumT_le h i
 refine bs (fun h1 => ?_) (fun h1 => ?_)
 ·
  conv => whnf
  have h1' : i < raw.length := by simpa using h1
  obtain ⟨b, hb⟩ := at_some h1'
  have hbb := h.by_ b (mG_ hb)
  have hsu := sumT_succ hb
  refine .mk (i) ([.lit (.int .u8 (b : Nat))]) (rfl) (at_map hb) ?_
  conv => whnf
  conv => whnf
  have hw3 : IntKind.i64.wrap (b : Int) = (b : Int) := wr64 (by omega) (by omega)
  have hw4 : IntKind.i64.wrap ((sumT raw i : Int) + (b : Int)) = ((sumT raw (i + 1) : Nat) : Int) := by rw [hsu, wr64 (by omega) (by omega)]; omega
  rw [hw3, hw4]
  exact ⟨i + 1, Wk.go, h1', by omega⟩
 ·
  conv => whnf
  refine bs (fun h2 => ?_) (fun h2 => ?_)
  ·
   conv => whnf
   refine .c (c2) ?_
   conv => whnf
   exact .s ⟨q, P, ls, ⟨hq, hP, hl, o1, o2⟩, rfl, rfl⟩
  ·
   conv => whnf
   exact .s ⟨q, P, [], ⟨hq, hP, hl, fun m hm => (by cases hm), by simp⟩, rfl, rfl⟩
theorem lx_derived {raw : List Nat} (h : RawOk raw) : ∃ (q : Qu) (P : List Dc) (ls : List Lm), (QuB q ∧ PartI q P ∧ P.length ≤ 3 ∧ LmsOk q.g.us.length ls ∧ ls.length ≤ 16) ∧ LV Tryz.prog 23 [.a (.d (bysD raw))] (.agg (Sp.A ⟨q, P, ls⟩)) := by
 suffices hh : LX Tryz.prog 23 [.a (.d (bysD raw))] [] fun v H => ∃ (q : Qu) (P : List Dc) (ls : List Lm), (QuB q ∧ PartI q P ∧ P.length ≤ 3 ∧ LmsOk q.g.us.length ls ∧ ls.length ≤ 16) ∧ v = .agg (Sp.A ⟨q, P, ls⟩) ∧ H = [] by
  obtain ⟨v, H', ⟨q, P, ls, h1, rfl, rfl⟩, hc⟩ := hh
  exact ⟨q, P, ls, h1, _, _, ⟨rfl, rfl⟩, hc⟩
 have hrl := h.len
 obtain ⟨q, P, ls, ⟨hq, hP, hl, o1, o2⟩, c⟩ := lx_xextend h
 have key := fun z : Int => lx_zrun (z := z) hq (by omega) hP.sm (fun d hd => (hP.bt d hd).mono (by decide)) o1 o2
 refine LX_run (m := 0) (n0 := 0) mix Tryz.func23 rfl rfl rfl rfl ?_
 conv => whnf
 refine .c (c) ?_
 conv => whnf
 refine .mk Nat (fun i => ⟨[(5, vl (.int .i64 (i : Nat))), (4, vl (.int .i64 (sumT raw i : Nat))), (3, .a (.ptr 1 0)), (2, .a (.ptr 0 0)), (0, .a (.d (bysD raw)))], [(0, .box 43 zSp), (1, .box 43 (Sp.A ⟨q, P, ls⟩))], 2⟩) (fun i => i ≤ raw.length) (fun i => raw.length - i) 0 Wk.go (zL_ _) fun i hi => ?_
 conv => whnf
 conv => whnf
 have hsl := sumT_le h i
 refine bs (fun h1 => ?_) (fun h1 => ?_)
 ·
  conv => whnf
  have h1' : i < raw.length := by simpa using h1
  obtain ⟨b, hb⟩ := at_some h1'
  have hbb := h.by_ b (mG_ hb)
  have hsu := sumT_succ hb
  refine .mk (i) ([.lit (.int .u8 (b : Nat))]) (rfl) (at_map hb) ?_
  conv => whnf
  conv => whnf
  have hw3 : IntKind.i64.wrap (b : Int) = (b : Int) := wr64 (by omega) (by omega)
  have hw4 : IntKind.i64.wrap ((sumT raw i : Int) + (b : Int)) = ((sumT raw (i + 1) : Nat) : Int) := by rw [hsu, wr64 (by omega) (by omega)]; omega
  rw [hw3, hw4]
  exact ⟨i + 1, Wk.go, h1', by omega⟩
 ·
  conv => whnf
  refine bs (fun h2 => ?_) (fun h2 => ?_)
  ·
   conv => whnf
   obtain ⟨ls', ⟨o3, o4⟩, c2⟩ := key (Int.tmod (sumT raw i : Nat) 5)
   refine .c (c2) ?_
   conv => whnf
   exact .s ⟨q, P, ls', ⟨hq, hP, hl, o3, o4⟩, rfl, rfl⟩
  ·
   conv => whnf
   exact .s ⟨q, P, ls, ⟨hq, hP, hl, o1, by omega⟩, rfl, rfl⟩
theorem bt_raw {x : Rw} (h1 : x.n.length ≤ 4) (h2 : x.d.length ≤ 4) (l1 : lims x.n) (l2 : lims x.d) : Bt 128 x.q := by
 have e : ∀ xs : List Nat, lims xs → xs.length ≤ 4 → val xs ≤ 2 ^ 128 := fun xs hl hn => by
  have h3 := val_lt hl
  have h4 : 4294967296 ^ xs.length ≤ 4294967296 ^ 4 := Nat.pow_le_pow_right (by decide) hn
  have h5 : (4294967296 : Nat) ^ 4 = 2 ^ 128 := by decide
  omega
 have e1 := e _ l1 h1
 have e2 := e _ l2 h2
 unfold Rw.q rv
 refine bt_mk ?_ ?_ ?_
 ·
  unfold un; split <;> omega
 ·
  unfold iv; split <;> omega
 ·
  unfold un; split
  ·
   exact Nat.one_le_two_pow
  ·
   exact e2
structure Mr where
 r : Ro
 c : Rw
abbrev Mr.D (m : Mr) : List D := [.lit (.int .i64 m.r.k), .lit (.int .i64 m.r.i), .lit (.int .i64 m.r.l), .lit (.int .i64 m.r.h), .lit (.bool m.c.b), .lm m.c.n, .lm m.c.d]
def LmW (m : Lm) : Prop := lims m.v.n ∧ lims m.v.d ∧ m.pf.length ≤ 1099511627776 ∧ ∃ mrs : List Mr, m.pf = mrs.map Mr.D
def DcW (d : Dc) : Prop := lims d.at_.n ∧ lims d.at_.d
def LmS (m : Lm) : Prop := m.v.n.length ≤ 4 ∧ m.v.d.length ≤ 4
theorem lx_small23 {L : List Lm} (hw : ∀ m ∈ L, LmW m) (hl : L.length ≤ 1099511627776) : ∃ b, (b = true → L.length ≤ 20 ∧ ∀ m ∈ L, LmS m) ∧ LV Tryz.prog 22 [.a (.d (lmsD L))] (vl (.bool b)) := by
 suffices hh : LX Tryz.prog 22 [.a (.d (lmsD L))] [] fun v H => ∃ b, (b = true → L.length ≤ 20 ∧ ∀ m ∈ L, LmS m) ∧ v = vl (.bool b) ∧ H = [] by
  obtain ⟨v, H', ⟨b, h1, rfl, rfl⟩, hc⟩ := hh
  exact ⟨b, h1, _, _, ⟨rfl, rfl⟩, hc⟩
 have fin : ∀ H : List (Nat × Ent), Rt 0 H (vl (.bool false)) fun v H => ∃ b, (b = true → L.length ≤ 20 ∧ ∀ m ∈ L, LmS m) ∧ v = vl (.bool b) ∧ H = [] := fun H => .q ⟨false, fun h => (by cases h), rfl, rfl⟩
 refine LX_run (m := 0) (n0 := 0) mix Tryz.func22 rfl rfl rfl rfl ?_
 conv => whnf
 refine .mk Nat (fun i => ⟨[(3, vl (.int .i64 (i : Nat))), (0, .a (.d (lmsD L)))], [], 0⟩) (fun i => i ≤ L.length ∧ ∀ (j : Nat) m, j < i → L[j]? = some m → LmS m) (fun i => L.length - i) 0 Wk.go ⟨zL_ _, fun j m h => by omega⟩ fun i hb => ?_
 obtain ⟨hi, hall⟩ := hb
 conv => whnf
 refine bs (fun h1 => ?_) (fun h1 => ?_)
 ·
  conv => whnf
  have h1' : i < L.length := by simpa using h1
  obtain ⟨m, hm⟩ := at_some h1'
  obtain ⟨w1, w2, w3, mrs, w4⟩ := hw m (mG_ hm)
  obtain ⟨mu, up, mv, mp⟩ := m
  simp only at w1 w2 w3 w4
  subst w4
  have hix := at_map (f := Lm.D) hm
  refine .mk i (Lm.D ⟨mu, up, mv, mrs.map Mr.D⟩) rfl hix ?_
  conv => whnf
  refine bs (fun h2 => ?_) (fun h2 => ?_)
  ·
   repeat' first | (refine bs (fun h => ?_) (fun h => ?_) <;> conv => whnf) | (refine Nc.mk (by kernel_rfl) ?_; conv => whnf) | (refine .mk i (Lm.D ⟨mu, up, mv, mrs.map Mr.D⟩) rfl hix ?_; conv => whnf)
   all_goals exact fin _
  ·
   conv => whnf
   refine .mk i (Lm.D ⟨mu, up, mv, mrs.map Mr.D⟩) rfl hix ?_
   conv => whnf
   refine bs (fun h3 => ?_) (fun h3 => ?_)
   ·
    repeat' first | (refine bs (fun h => ?_) (fun h => ?_) <;> conv => whnf) | (refine Nc.mk (by kernel_rfl) ?_; conv => whnf) | (refine .mk i (Lm.D ⟨mu, up, mv, mrs.map Mr.D⟩) rfl hix ?_; conv => whnf)
    all_goals exact fin _
   ·
    conv => whnf
    refine .mk i (Lm.D ⟨mu, up, mv, mrs.map Mr.D⟩) rfl hix ?_
    conv => whnf
    refine bs (fun h4 => ?_) (fun h4 => ?_)
    ·
     conv => whnf
     exact fin _
    ·
     conv => whnf
     have hS : LmS ⟨mu, up, mv, mrs.map Mr.D⟩ := ⟨by have h := of_decide_eq_false h2; simp only at h ⊢; omega, by have h := of_decide_eq_false h3; simp only at h ⊢; omega⟩
     have hmr : mrs.length ≤ 1000 := by have := of_decide_eq_false h4; rw [List.length_map] at this; omega
     refine .mk Nat (fun k => ⟨[(4, vl (.int .i64 (k : Nat))), (3, vl (.int .i64 (i : Nat))), (0, .a (.d (lmsD L)))], [], 0⟩) (fun k => k ≤ mrs.length) (fun k => mrs.length - k) 0 Wk.go (zL_ _) fun k hk => ?_
     conv => whnf
     refine .mk i (Lm.D ⟨mu, up, mv, mrs.map Mr.D⟩) rfl hix ?_
     conv => whnf
     refine bs (fun h5 => ?_) (fun h5 => ?_)
     ·
      conv => whnf
      have h5' : k < mrs.length := by simpa using h5
      obtain ⟨z, hz⟩ := at_some h5'
      repeat' first | (refine bs (fun h => ?_) (fun h => ?_) <;> conv => whnf) | (refine Nc.mk (by kernel_rfl) ?_; conv => whnf) | (refine .mk i (Lm.D ⟨mu, up, mv, mrs.map Mr.D⟩) rfl hix ?_; conv => whnf) | (refine .mk k (Mr.D z) rfl (at_map hz) ?_; conv => whnf)
      all_goals first
       | exact fin _
       | exact ⟨k + 1, Wk.go, h5', by omega⟩
     ·
      conv => whnf
      have e5 : k = mrs.length := by simp at h5; omega
      refine ⟨i + 1, Wk.go, ⟨h1', fun j x hj hx => ?_⟩, by omega⟩
      rcases Nat.lt_succ_iff_lt_or_eq.1 hj with h6 | h6
      ·
       exact hall j x h6 hx
      ·
       subst h6; rw [hm] at hx; injection hx with hx; rw [← hx]; exact hS
 ·
  conv => whnf
  have e : i = L.length := by simp at h1; omega
  refine bs (fun h9 => ?_) (fun h9 => ?_)
  ·
   conv => whnf
   refine .q ⟨true, fun _ => ⟨?_, fun m hm => ?_⟩, rfl, rfl⟩
   ·
    have := of_decide_eq_true h9
    rw [List.length_map] at this; omega
   ·
    obtain ⟨j, hj⟩ := List.mem_iff_getElem?.1 hm
    exact hall j m (by rw [e]; exact at_lt hj) hj
  ·
   conv => whnf
   exact fin _
structure SmlA (raw : List Nat) (P : List Dc) (L : List Lm) : Prop where
 raw : raw.length ≤ 300
 len : P.length ≤ 10
 dc : ∀ d ∈ P, d.at_.n.length ≤ 4 ∧ d.at_.d.length ≤ 4
 ll : L.length ≤ 20
 lm : ∀ m ∈ L, LmS m
theorem lx_large {raw : List Nat} {P : List Dc} {L : List Lm} (hw : ∀ m ∈ L, LmW m) (hl : L.length ≤ 1099511627776) (hP : P.length ≤ 1099511627776) (hr : raw.length ≤ 1099511627776) :
  ∃ b, (b = false → SmlA raw P L) ∧ LV Tryz.prog 7 [.a (.d (bysD raw)), .a (.d (dcsD P)), .a (.d (lmsD L))] (vl (.bool b)) := by
 suffices hh : LX Tryz.prog 7 [.a (.d (bysD raw)), .a (.d (dcsD P)), .a (.d (lmsD L))] [] fun v H => ∃ b, (b = false → SmlA raw P L) ∧ v = vl (.bool b) ∧ H = [] by
  obtain ⟨v, H', ⟨b, h1, rfl, rfl⟩, hc⟩ := hh
  exact ⟨b, h1, _, _, ⟨rfl, rfl⟩, hc⟩
 have fin : ∀ H : List (Nat × Ent), Rt 0 H (vl (.bool true)) fun v H => ∃ b, (b = false → SmlA raw P L) ∧ v = vl (.bool b) ∧ H = [] := fun H => .q ⟨true, fun h => (by cases h), rfl, rfl⟩
 obtain ⟨sb, hsb, cs⟩ := lx_small23 hw hl
 refine LX_run (m := 0) (n0 := 0) mix Tryz.func7 rfl rfl rfl rfl ?_
 conv => whnf
 refine .mk Nat (fun i => ⟨[(11, vl (.int .i64 (i : Nat))), (10, vl (.int .i64 (P.map Dc.D).length)), (9, .a (.d (dcsD P))), (2, .a (.d (lmsD L))), (1, .a (.d (dcsD P))), (0, .a (.d (bysD raw)))], [], 0⟩) (fun i => i ≤ P.length ∧ ∀ (j : Nat) d, j < i → P[j]? = some d → d.at_.n.length ≤ 4 ∧ d.at_.d.length ≤ 4) (fun i => P.length - i) 0 Wk.go ⟨zL_ _, fun j m h => by omega⟩ fun i hb => ?_
 obtain ⟨hi, hall⟩ := hb
 conv => whnf
 refine bs (fun h1 => ?_) (fun h1 => ?_)
 ·
  conv => whnf
  have h1' : i < P.length := by simpa using h1
  obtain ⟨d, hd⟩ := at_some h1'
  obtain ⟨dk, di, da⟩ := d
  refine .mk (i) ((Dc.D ⟨dk, di, da⟩)) (rfl) (at_map hd) ?_
  conv => whnf
  conv => whnf
  refine bs (fun h2 => ?_) (fun h2 => ?_)
  ·
   conv => whnf
   exact fin _
  ·
   conv => whnf
   refine bs (fun h3 => ?_) (fun h3 => ?_)
   ·
    conv => whnf
    exact fin _
   ·
    conv => whnf
    refine ⟨i + 1, Wk.go, ⟨h1', fun j x hj hx => ?_⟩, by omega⟩
    rcases Nat.lt_succ_iff_lt_or_eq.1 hj with h6 | h6
    ·
     exact hall j x h6 hx
    ·
     subst h6; rw [hd] at hx; injection hx with hx; rw [← hx]
     exact ⟨by have h := of_decide_eq_false h2; simp only at h ⊢; omega, by have h := of_decide_eq_false h3; simp only at h ⊢; omega⟩
 ·
  conv => whnf
  have e : i = P.length := by simp at h1; omega
  refine bs (fun h2 => ?_) (fun h2 => ?_)
  ·
   conv => whnf
   exact fin _
  ·
   conv => whnf
   refine bs (fun h3 => ?_) (fun h3 => ?_)
   ·
    conv => whnf
    exact fin _
   ·
    conv => whnf
    refine .c (cs) ?_
    conv => whnf
    refine bs (fun h4 => ?_) (fun h4 => ?_)
    ·
     conv => whnf
     obtain ⟨k1, k2⟩ := hsb h4
     refine .q ⟨false, fun _ => ⟨?_, ?_, fun d hd => ?_, k1, k2⟩, rfl, rfl⟩
     ·
      have h := of_decide_eq_false h2; rw [List.length_map] at h; omega
     ·
      have h := of_decide_eq_false h3; rw [List.length_map] at h; omega
     ·
      obtain ⟨j, hj⟩ := List.mem_iff_getElem?.1 hd
      exact hall j d (by rw [e]; exact at_lt hj) hj
    ·
     conv => whnf
     exact fin _
end Go.Proofs.YtikglhmabidjoaaGreat.Lf
