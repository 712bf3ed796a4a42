/- Layer 38, lifted: the intervals of the inputs of a part. -/
import Derived.Test.YtikglhmabidjoaaGreatDoorLgG
namespace Go.Proofs.YtikglhmabidjoaaGreatDoor.Lf
open Go.RowKit Nt
set_option linter.unusedVariables false
set_option linter.unusedSimpArgs false
set_option maxRecDepth 100000
structure Iv where
  lo : Rat
  hi : Rat
abbrev Iv.D (v : Iv) : List D := [.lit (.bool (decide (v.lo < 0))), .lm (limbs v.lo.num.natAbs), .lm (limbs (dn v.lo)), .lit (.bool (decide (v.hi < 0))), .lm (limbs v.hi.num.natAbs), .lm (limbs (dn v.hi))]
abbrev Iv.A (v : Iv) : List A := [.d (.lit (.bool (decide (v.lo < 0)))), .d (.lm (limbs v.lo.num.natAbs)), .d (.lm (limbs (dn v.lo))), .d (.lit (.bool (decide (v.hi < 0)))), .d (.lm (limbs v.hi.num.natAbs)), .d (.lm (limbs (dn v.hi)))]
abbrev ivsD (l : List Iv) : D := .sl 6 (l.map Iv.D)
def rmax (a b : Rat) : Rat := if b ≤ a then a else b
def rmin (a b : Rat) : Rat := if a ≤ b then a else b
def ivs0 (r : Rg) : List Iv := List.zipWith Iv.mk r.lo r.hi
def bxStep (q : Qu) (l : List Iv) (d : Dc) : List Iv :=
  if fitB q d = true then
    match l[d.i.toNat]? with
    | some v => if d.k = 3 then l.set d.i.toNat ⟨rmax v.lo d.at_.q, v.hi⟩ else if d.k = 4 then l.set d.i.toNat ⟨v.lo, rmin v.hi d.at_.q⟩ else l
    | none => l
  else l
def bxS (s : Sp) : List Iv := s.path.foldl (bxStep s.q) (ivs0 s.q.r)
def ivBad (v : Iv) : Bool := decide (cmpQ v.lo v.hi > 0)
def bxE (s : Sp) : Int := if (bxS s).any ivBad = true then 10 else 0
def bxR (s : Sp) : List Iv := if (bxS s).any ivBad = true then [] else bxS s
def IvB (l : List Iv) : Prop := ∀ v ∈ l, Bt 300000000 v.lo ∧ Bt 300000000 v.hi
theorem bxStep_len (q : Qu) (l : List Iv) (d : Dc) : (bxStep q l d).length = l.length := by
  unfold bxStep; repeat' split
  all_goals simp
theorem rmax_b {a b : Rat} {k : Nat} (h : Bt k a) (h' : Bt k b) : Bt k (rmax a b) := by unfold rmax; split <;> assumption
theorem rmin_b {a b : Rat} {k : Nat} (h : Bt k a) (h' : Bt k b) : Bt k (rmin a b) := by unfold rmin; split <;> assumption
theorem bxStep_b {q : Qu} {l : List Iv} {d : Dc} (h : IvB l) (hd : Bt 300000000 d.at_.q) : IvB (bxStep q l d) := by
  unfold bxStep
  split
  · split
    · rename_i v hv
      have hb := h v (List.mem_of_getElem? hv)
      repeat' split
      · intro x hx
        rcases List.mem_or_eq_of_mem_set hx with h1 | rfl
        · exact h x h1
        · exact ⟨rmax_b hb.1 hd, hb.2⟩
      · intro x hx
        rcases List.mem_or_eq_of_mem_set hx with h1 | rfl
        · exact h x h1
        · exact ⟨hb.1, rmin_b hb.2 hd⟩
      · exact h
    · exact h
  · exact h
theorem ivs0_len {r : Rg} {n : Nat} (h : RgOk r n) : (ivs0 r).length = n := by simp [ivs0, h.lo, h.hi]
theorem ivs0_b {s : Sp} (hs : SpOk s) : IvB (ivs0 s.q.r) := by
  intro v hv
  obtain ⟨i, hi⟩ := List.mem_iff_getElem?.1 hv
  rw [ivs0, List.getElem?_zipWith_eq_some] at hi
  obtain ⟨a, b, h1, h2, rfl⟩ := hi
  exact ⟨hs.rlo a (List.mem_of_getElem? h1), hs.rhi b (List.mem_of_getElem? h2)⟩
theorem bx_b {s : Sp} (hs : SpOk s) (i : Nat) : IvB ((s.path.take i).foldl (bxStep s.q) (ivs0 s.q.r)) := by
  have : ∀ (l : List Dc), (∀ d ∈ l, Bt 300000000 d.at_.q) → ∀ a, IvB a → IvB (l.foldl (bxStep s.q) a) := by
    intro l
    induction l with
    | nil => intro _ a h; exact h
    | cons d l ih => intro h a ha; exact ih (fun d hd => h d (by simp [hd])) _ (bxStep_b ha (h d (by simp)))
  exact this _ (fun d hd => hs.pb d (List.mem_of_mem_take hd)) _ (ivs0_b hs)
theorem bx_len {s : Sp} (hs : SpOk s) (l : List Dc) : (l.foldl (bxStep s.q) (ivs0 s.q.r)).length = s.q.g.n := by
  have : ∀ (l : List Dc) a, (l.foldl (bxStep s.q) a).length = a.length := by
    intro l
    induction l with
    | nil => intro a; rfl
    | cons d l ih => intro a; rw [List.foldl_cons, ih, bxStep_len]
  rw [this, ivs0_len hs.q.r]
theorem lx_box1 {v : Iv} (h1 : Sz v.lo) (h2 : Sz v.hi) : LV Tryz.prog 127 [.agg v.A] (vl (.bool (ivBad v))) := by
  refine LX_run (m := 0) (n0 := 0) mix Tryz.func127 rfl rfl rfl rfl ?_
  conv => whnf
  refine .c (lx_rcmp (.c h1) (.c h2)) ?_
  conv => whnf
  repeat' first | (refine bs (fun h => ?_) (fun h => ?_) <;> conv => whnf) | (refine Nc.mk (by kernel_rfl) ?_; conv => whnf)
  all_goals exact .q ⟨by first | (simp_all [ivBad]; done) | (simp_all [ivBad]; intros; omega) | ((simp [ivBad]; repeat' split) <;> first | (simp_all; done) | (simp_all; intros; omega)), rfl⟩
theorem lx_cfV {F : FuncId} {fs : List Iv} {p : Iv → Bool} (hl : fs.length ≤ 1000000) (he : entT Tryz.prog F = true) (hF : ∀ f ∈ fs, LV Tryz.prog F [.agg f.A] (vl (.bool (p f)))) :
    LV Tryz.prog 126 [.a (.d (.sl 6 (fs.map Iv.D))), .a (.fn (.func F) [] [])] (vl (.bool (fs.any p))) := by
  have ix : LV Tryz.prog 170 [.a (.d (.sl 6 (fs.map Iv.D))), .a (.fn (.func F) [] [])] (vl (.int .i64 (if fs.any p then (fs.findIdx p : Int) else -1))) := by
    refine LX_run (m := 0) (n0 := 0) mix Tryz.func170 rfl rfl rfl rfl ?_
    conv => whnf
    refine .mk Nat (fun i => ⟨[(8, vl (.int .i64 i)), (7, vl (.int .i64 (fs.map Iv.D).length)), (1, .a (.fn (.func F) [] [])), (0, .a (.d (.sl 6 (fs.map Iv.D))))], [], 0⟩) (fun i => i ≤ fs.length ∧ ∀ j y, j < i → fs[j]? = some y → p y = false) (fun i => fs.length - i) 0 Wk.go ⟨Nat.zero_le _, by intro j y h; omega⟩ fun i hi => ?_
    obtain ⟨hi, hall⟩ := hi
    conv => whnf
    refine bs (fun h1 => ?_) (fun h1 => ?_)
    · conv => whnf
      have h1' : i < fs.length := by simpa using h1
      obtain ⟨f, hf⟩ := at_some h1'
      refine .mk (i) (f.D) (rfl) (at_map hf) ?_
      conv => whnf
      conv => whnf
      refine Cn.c (hF f (List.mem_of_getElem? hf)) ?_ he
      conv => whnf
      refine bs (fun h2 => ?_) (fun h2 => ?_)
      · conv => whnf
        exact ⟨_, _, ⟨by rw [if_pos (any_true hf h2), find_at hall hf h2], rfl⟩, WkV.refl _, rfl, trivial, rfl⟩
      · conv => whnf
        refine ⟨i + 1, Wk.go, ⟨h1', fun j y hj hy => ?_⟩, by omega⟩
        rcases Nat.lt_succ_iff_lt_or_eq.1 hj with h3 | h3
        · exact hall j y h3 hy
        · subst h3; rw [hf] at hy; injection hy with hy; rw [← hy]; exact h2
    · conv => whnf
      exact ⟨_, _, ⟨by rw [if_neg]; rw [any_none fun j y hy => hall j y (by have := at_lt hy; simp at h1; omega) hy]; decide, rfl⟩, WkV.refl _, rfl, trivial, rfl⟩
  refine LX_run (m := 0) (n0 := 0) mix Tryz.func126 rfl rfl rfl rfl ?_
  conv => whnf
  refine .c ix ?_
  conv => whnf
  refine bs (fun h => ?_) (fun h => ?_)
  · conv => whnf
    exact ⟨_, _, ⟨by rw [any_idx] at h; rw [h], rfl⟩, WkV.refl _, rfl, trivial, rfl⟩
  · conv => whnf
    exact ⟨_, _, ⟨by rw [any_idx] at h; rw [h], rfl⟩, WkV.refl _, rfl, trivial, rfl⟩
abbrev zRow : List D := [.lit (.bool false), .nat 0, .nat 0, .lit (.bool false), .nat 0, .nat 0]
theorem set_next {α : Type} {A : List α} {z x : α} {m i : Nat} (hA : A.length = i) : (A ++ List.replicate (m + 1) z).set i x = (A ++ [x]) ++ List.replicate m z := by
  rw [List.set_append_right _ _ (by omega), show i - A.length = 0 by omega, List.replicate_succ, List.set_cons_zero, List.append_assoc]; rfl
theorem fits_ix {q : Qu} {d : Dc} (h : fitB q d = true) (hk : d.k = 3 ∨ d.k = 4) : 0 ≤ d.i ∧ d.i < q.g.n := by
  unfold fitB at h
  rw [if_neg (by omega), if_pos hk] at h
  simp at h; omega
theorem lx_box {s : Sp} (hs : SpOk s) : LV Tryz.prog 71 [.agg s.A] (.tup [.s (.d (ivsD (bxR s))), .s (.d (.lit (.int .i64 (bxE s))))]) := by
  have hlo := hs.q.r.lo; have hhi := hs.q.r.hi; have hn2 := hs.q.r.n2; have hpl := hs.pl
  have hll : (s.q.r.lo.map fun q => (can q).D).length = s.q.g.n := by rw [List.length_map, hlo]
  have h0 := ivs0_len hs.q.r
  refine LX_run (m := 0) (n0 := 0) mix Tryz.func71 rfl rfl rfl rfl ?_
  conv => whnf
  refine .c (lx_quvalid hs.q) ?_
  conv => whnf
  refine .mk s.q.g.n (by rw [hll]) (by rw [hll]) (by omega) ?_
  conv => whnf
  refine .mk Nat (fun i => ⟨[(22, vl (.int .i64 i)), (21, vl (.int .i64 s.q.g.n)), (5, .a (.tab 2 s.q.g.n)), (4, .a (.ptr 1 0)), (1, .a (.ptr 0 0))], [(0, .box 43 s.A), (1, .box 32 s.q.r.A), (2, .tab 125 6 (((ivs0 s.q.r).take i).map Iv.D ++ List.replicate (s.q.g.n - i) zRow))], 3⟩) (fun i => i ≤ s.q.g.n) (fun i => s.q.g.n - i) 0 Wk.go (Nat.zero_le _) fun i hi => ?_
  conv => whnf
  refine bs (fun h1 => ?_) (fun h1 => ?_)
  · conv => whnf
    have h1' : i < s.q.g.n := by simpa using h1
    obtain ⟨a, ha⟩ := at_some (l := s.q.r.lo) (i := i) (by omega)
    obtain ⟨b, hb⟩ := at_some (l := s.q.r.hi) (i := i) (by omega)
    have hv : (ivs0 s.q.r)[i]? = some ⟨a, b⟩ := by rw [ivs0, List.getElem?_zipWith_eq_some]; exact ⟨a, b, ha, hb, rfl⟩
    refine .mk (i) ((can a).D) (rfl) (at_map (f := fun q => (can q).D) ha) ?_
    conv => whnf
    conv => whnf
    refine .mk (i) ((can b).D) (rfl) (at_map (f := fun q => (can q).D) hb) ?_
    conv => whnf
    conv => whnf
    refine .mk i rfl h1' ?_
    conv => whnf
    have hal : (((ivs0 s.q.r).take i).map Iv.D).length = i := by rw [List.length_map, List.length_take]; omega
    refine .mk i 0 zRow (((ivs0 s.q.r).take (i + 1)).map Iv.D ++ List.replicate (s.q.g.n - (i + 1)) zRow) rfl (by rw [List.getElem?_append_right (by omega), hal, Nat.sub_self, List.getElem?_replicate, if_pos (by omega)]) (Nat.le_of_ble_eq_true rfl) (by rw [take_snoc hv, show s.q.g.n - i = s.q.g.n - (i + 1) + 1 by omega, set_next hal, List.map_append]; rfl) ?_
    conv => whnf
    refine .mk (by kernel_rfl) ?_
    conv => whnf
    exact ⟨i + 1, Wk.go, h1', by omega⟩
  · conv => whnf
    have e : i = s.q.g.n := by simp at h1; omega
    subst e
    refine .mkw Nat (fun j => ⟨[(43, vl (.int .i64 j)), (42, vl (.int .i64 (s.path.map Dc.D).length)), (41, .a (.d (dcsD s.path))), (5, .a (.tab 2 s.q.g.n)), (1, .a (.ptr 0 0))], [(0, .box 43 s.A), (2, .tab 125 6 (((s.path.take j).foldl (bxStep s.q) (ivs0 s.q.r)).map Iv.D))], 3⟩) (fun j => j ≤ s.path.length) (fun j => s.path.length - j) 0 (by rw [List.take_of_length_le (by omega), Nat.sub_self, List.replicate_zero, List.append_nil]; exact Wk.go) (Nat.zero_le _) fun j hj => ?_
    conv => whnf
    refine bs (fun h2 => ?_) (fun h2 => ?_)
    · conv => whnf
      have h2' : j < s.path.length := by simpa using h2
      obtain ⟨d, hd⟩ := at_some h2'
      have hdm := List.mem_of_getElem? hd
      have hsm := hs.pn d hdm
      have hfo : (s.path.take (j + 1)).foldl (bxStep s.q) (ivs0 s.q.r) = bxStep s.q ((s.path.take j).foldl (bxStep s.q) (ivs0 s.q.r)) d := by rw [take_snoc hd, List.foldl_append]; rfl
      have hbl := bx_len hs (s.path.take j)
      have hbb := bx_b hs j
      generalize (s.path.take j).foldl (bxStep s.q) (ivs0 s.q.r) = L at *
      refine .mk (j) (d.D) (rfl) (at_map hd) ?_
      conv => whnf
      conv => whnf
      refine .c (lx_Fits hs.q hsm) ?_
      conv => whnf
      refine bs (fun hf => ?_) (fun hf => ?_)
      · conv => whnf
        refine bs (fun h3 => ?_) (fun h3 => ?_)
        · conv => whnf
          have h3' : d.k = 3 := by simpa using h3
          obtain ⟨i1, i2⟩ := fits_ix hf (.inl h3')
          obtain ⟨v, hv⟩ := at_some (l := L) (i := d.i.toNat) (by omega)
          have hvb := hbb v (List.mem_of_getElem? hv)
          refine .mk d.i.toNat (by omega) (by omega) ?_
          conv => whnf
          refine .mk d.i.toNat 0 v.D rfl (at_map hv) ?_
          conv => whnf
          refine .c (lx_rmax (.c (hvb.1.mono (by decide))) hsm.rq) ?_
          conv => whnf
          refine .mk d.i.toNat (by omega) (by omega) ?_
          conv => whnf
          refine .mk d.i.toNat 0 v.D ((bxStep s.q L d).map Iv.D) rfl (at_map hv) (Nat.le_of_ble_eq_true rfl) (by rw [bxStep, if_pos hf, hv]; simp only [if_pos h3']; rw [List.map_set]; rfl) ?_
          conv => whnf
          refine .mk (by kernel_rfl) ?_
          conv => whnf
          exact ⟨j + 1, by rw [hfo]; exact Wk.go, h2', by omega⟩
        · conv => whnf
          refine bs (fun h4 => ?_) (fun h4 => ?_)
          · conv => whnf
            have h3' : ¬ d.k = 3 := by simpa using h3
            have h4' : d.k = 4 := by simpa using h4
            obtain ⟨i1, i2⟩ := fits_ix hf (.inr h4')
            obtain ⟨v, hv⟩ := at_some (l := L) (i := d.i.toNat) (by omega)
            have hvb := hbb v (List.mem_of_getElem? hv)
            refine .mk d.i.toNat (by omega) (by omega) ?_
            conv => whnf
            refine .mk d.i.toNat 3 v.D rfl (at_map hv) ?_
            conv => whnf
            refine .c (lx_rmin (.c (hvb.2.mono (by decide))) hsm.rq) ?_
            conv => whnf
            refine .mk d.i.toNat (by omega) (by omega) ?_
            conv => whnf
            refine .mk d.i.toNat 3 v.D ((bxStep s.q L d).map Iv.D) rfl (at_map hv) (Nat.le_of_ble_eq_true rfl) (by rw [bxStep, if_pos hf, hv]; simp only [if_neg h3', if_pos h4']; rw [List.map_set]; rfl) ?_
            conv => whnf
            refine .mk (by kernel_rfl) ?_
            conv => whnf
            exact ⟨j + 1, by rw [hfo]; exact Wk.go, h2', by omega⟩
          · conv => whnf
            have e : bxStep s.q L d = L := by
              rw [bxStep, if_pos hf]
              split
              · rw [if_neg (by simpa using h3), if_neg (by simpa using h4)]
              · rfl
            exact ⟨j + 1, by rw [hfo, e]; exact Wk.go, h2', by omega⟩
      · conv => whnf
        have e : bxStep s.q L d = L := by rw [bxStep, if_neg (by rw [hf]; exact Bool.false_ne_true)]
        exact ⟨j + 1, by rw [hfo, e]; exact Wk.go, h2', by omega⟩
    · conv => whnf
      have e : j = s.path.length := by simp at h2; omega
      subst e
      rw [List.take_length]
      refine ⟨_, Wk.freeze 5 2 s.q.g.n rfl rfl (by omega), ?_⟩
      conv => whnf
      have hbb := bx_b hs s.path.length
      rw [List.take_length] at hbb
      have hbl := bx_len hs s.path
      refine .c (lx_cfV (fs := s.path.foldl (bxStep s.q) (ivs0 s.q.r)) (by omega) rfl fun v hv => lx_box1 ((hbb v hv).1.mono (by decide)) ((hbb v hv).2.mono (by decide))) ?_
      conv => whnf
      refine bs (fun h5 => ?_) (fun h5 => ?_)
      · conv => whnf
        exact .mk _ [] ⟨rfl, rfl⟩ (WkV.tup ⟨by rw [bxR, bxS, if_pos h5]; exact WkA.nil, by rw [bxE, bxS, if_pos h5]; exact WkA.refl _, trivial⟩) rfl trivial rfl
      · conv => whnf
        have h5' : ¬ (s.path.foldl (bxStep s.q) (ivs0 s.q.r)).any ivBad = true := by rw [h5]; exact Bool.false_ne_true
        exact .q ⟨by rw [bxR, bxE, bxS, if_neg h5', if_neg h5'], rfl⟩
end Go.Proofs.YtikglhmabidjoaaGreatDoor.Lf
