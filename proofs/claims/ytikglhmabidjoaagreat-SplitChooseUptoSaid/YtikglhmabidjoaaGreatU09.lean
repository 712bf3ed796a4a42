/- Texts LhB of this proof, in this order. -/
import Derived.Test.YtikglhmabidjoaaGreatU07
import Derived.Test.YtikglhmabidjoaaGreatU08
import Derived.Deep.Slices
set_option linter.unusedVariables false
set_option linter.unusedSimpArgs false
set_option maxRecDepth 100000
set_option maxHeartbeats 4000000
namespace Go.Proofs.YtikglhmabidjoaaGreat.Lf
open Go.RowKit Go.ChangeShapes Go.WideShapes Nt
theorem bulk_one {H : Type} (d : DataW H) : 1 ≤ Rows.uptoBulk d := by
 cases d with
 | lit l => cases l <;> simp [Rows.uptoBulk]
 | nil => simp [Rows.uptoBulk]
 | ptr d => simp [Rows.uptoBulk]
 | slice elems spare => simp [Rows.uptoBulk]
 | agg parts => simp [Rows.uptoBulk]
 | iface t d => simp [Rows.uptoBulk]
 | map entries => simp [Rows.uptoBulk]
 | held h => simp [Rows.uptoBulk]
theorem bulk_part {H : Type} {d : DataW H} {l : List (DataW H)} (h : d ∈ l) : Rows.uptoBulk d ≤ Rows.uptoBulkAll l := by
 induction l with
 | nil => cases h
 | cons x r ih =>
   simp only [Rows.uptoBulkAll]
   cases List.mem_cons.1 h with
   | inl e => subst e; omega
   | inr e => have := ih e; omega
theorem bulk_len {H : Type} (l : List (DataW H)) : l.length ≤ Rows.uptoBulkAll l := by
 induction l with
 | nil => simp [Rows.uptoBulkAll]
 | cons x r ih => have := bulk_one x; simp only [Rows.uptoBulkAll, List.length_cons]; omega
def Cls (w : World) (cs : List Value) (row : List D) : Prop := All2 (fun d v => v.oneCell' = true ∧ RdD M0 w d v) row cs
section
variable {H : Type} {enc : TypeId × Value → H} {w : World} {base : Nat} {held : Bool}
noncomputable abbrev Tro (H : Type) (enc : TypeId × Value → H) (w : World) (base : Nat) (held : Bool) (fuel : Nat) (t : TypeId) (cs : List Value) := DataW.trod enc Tryz.prog w base (fun _ => true) held fuel t cs
theorem sl_len {w : World} {a : Option Addr} {n c : Nat} {xs : List Nat} (h : Sl w (.slice a n c) xs) : xs.length = n := by
 obtain ⟨_, _, _, e, h, _⟩ := h
 injection e with _ e _
 rw [h, e]
theorem at_nat {fuel : Nat} {cs : List Value} {y : DataW H × List MemPlace} (h : Tro H enc w base held fuel 35 cs = some y) (hb : Rows.uptoBulk y.1 ≤ 1048576) : ∃ xs v, cs = [v] ∧ v.oneCell' = true ∧ RdD M0 w (.lm xs) v ∧ lims xs ∧ xs.length ≤ 1048576 := by
 have h' := h
 rcases Deep.open_slice Tryz.underlying35 h with ⟨rfl, rfl⟩ | ⟨a, len, cap, m, n, D, Pl, rfl, hb1, hl, hm, hmm, rfl, hx⟩
 ·
  obtain ⟨a, n, k, e, hr⟩ := row_of_read h'
  injection e with e1 e2 e3
  subst e2
  obtain ⟨xs, h1, h2⟩ := hr (by decide)
  exact ⟨xs, _, rfl, rfl, by rw [← e1, ← e3] at h1; exact .lm _ _ h1 (fun _ _ _ _ _ _ _ h => h), h1.lims, by have := sl_len h1; omega⟩
 ·
  obtain ⟨a', n', k', e, hr⟩ := row_of_read h'
  injection e with e1 e2 e3
  subst e2
  have : len ≤ 1048576 := by
   have := bulk_len ((List.range len).map D)
   simp only [Rows.uptoBulk, List.length_map, List.length_range] at hb this
   omega
  obtain ⟨xs, h1, h2⟩ := hr (by omega)
  exact ⟨xs, _, rfl, rfl, by rw [← e1, ← e3] at h1; exact .lm _ _ h1 (fun _ _ _ _ _ _ _ h => h), h1.lims, by have := sl_len h1; omega⟩
theorem at_int {fuel : Nat} {cs : List Value} {y : DataW H × List MemPlace} (h : Tro H enc w base held fuel 3 cs = some y) : ∃ z, cs = [.int .i64 z] := by
 obtain ⟨z, e, _⟩ := DataW.trod_int Tryz.underlying3 h
 exact ⟨z, e⟩
theorem at_bool {fuel : Nat} {cs : List Value} {y : DataW H × List MemPlace} (h : Tro H enc w base held fuel 4 cs = some y) : ∃ z, cs = [.bool z] := by
 obtain ⟨z, e, _⟩ := DataW.trod_bool Tryz.underlying4 h
 exact ⟨z, e⟩
theorem get_of {α : Type} {l : List α} {i : Nat} {x : Option α} (h : x = l[i]?) (hi : i < l.length) : x = some l[i] := by rw [h, List.getElem?_eq_getElem hi]
theorem bulk_agg {xs : List (DataW H × List MemPlace)} {i : Nat} (hi : i < xs.length) (hb : Rows.uptoBulk (.agg (xs.map (·.1))) ≤ 1048576) : Rows.uptoBulk xs[i].1 ≤ 1048576 := by
 have := bulk_part (d := xs[i].1) (l := xs.map (·.1)) (List.mem_map.2 ⟨xs[i], List.getElem_mem hi, rfl⟩)
 simp only [Rows.uptoBulk] at hb
 omega
theorem at_rat {fuel : Nat} {cs : List Value} {y : DataW H × List MemPlace} (h : Tro H enc w base held fuel 37 cs = some y) (hb : Rows.uptoBulk y.1 ≤ 1048576) : ∃ x : Rw, Cls w cs x.D ∧ lims x.n ∧ lims x.d ∧ x.sm := by
 obtain ⟨xs, n, _, rfl, hl, hn, hf⟩ := DataW.trod_struct Tryz.underlying37 h
 have hn3 : xs.length = 3 := hn
 have hl3 : cs.length = 3 := by rw [hl]; kernel_rfl
 obtain ⟨c0, c1, c2, rfl⟩ : ∃ c0 c1 c2, cs = [c0, c1, c2] := by
  match cs, hl3 with
  | [c0, c1, c2], _ => exact ⟨_, _, _, rfl⟩
 have f0 : Tro H enc w base held n 4 (([c0, c1, c2].drop 0).take (Tryz.prog.cellsOf 4)) = some (xs[0]'(by omega)) := get_of (hf 0 _ rfl) (by omega)
 have f1 : Tro H enc w base held n 35 (([c0, c1, c2].drop 1).take (Tryz.prog.cellsOf 35)) = some (xs[1]'(by omega)) := get_of (hf 1 _ rfl) (by omega)
 have f2 : Tro H enc w base held n 35 (([c0, c1, c2].drop 2).take (Tryz.prog.cellsOf 35)) = some (xs[2]'(by omega)) := get_of (hf 2 _ rfl) (by omega)
 have z1 : Tryz.prog.cellsOf 4 = 1 := by kernel_rfl
 have z2 : Tryz.prog.cellsOf 35 = 1 := by kernel_rfl
 simp only [z1, z2] at f0 f1 f2
 obtain ⟨b, e0⟩ := at_bool f0
 obtain ⟨us, v1, e1, o1, r1, l1, m1⟩ := at_nat f1 (bulk_agg (by omega) hb)
 obtain ⟨vs, v2, e2, o2, r2, l2, m2⟩ := at_nat f2 (bulk_agg (by omega) hb)
 simp at e0 e1 e2
 subst e0 e1 e2
 exact ⟨⟨b, us, vs⟩, ⟨⟨rfl, .lit _⟩, ⟨o1, r1⟩, ⟨o2, r2⟩, trivial⟩, l1, l2, by show us.length ≤ _; omega, by show vs.length ≤ _; omega⟩
theorem at_dec {fuel : Nat} {cs : List Value} {y : DataW H × List MemPlace} (h : Tro H enc w base held fuel 59 cs = some y) (hb : Rows.uptoBulk y.1 ≤ 1048576) : ∃ d : Dc, Cls w cs d.D ∧ DcW d := by
 obtain ⟨xs, n, _, rfl, hl, hn, hf⟩ := DataW.trod_struct Tryz.underlying59 h
 have hn3 : xs.length = 3 := hn
 have hl3 : cs.length = 5 := by rw [hl]; kernel_rfl
 obtain ⟨c0, c1, c2, c3, c4, rfl⟩ : ∃ c0 c1 c2 c3 c4, cs = [c0, c1, c2, c3, c4] := by
  match cs, hl3 with
  | [c0, c1, c2, c3, c4], _ => exact ⟨_, _, _, _, _, rfl⟩
 have f0 : Tro H enc w base held n 3 (([c0, c1, c2, c3, c4].drop 0).take (Tryz.prog.cellsOf 3)) = some (xs[0]'(by omega)) := get_of (hf 0 _ rfl) (by omega)
 have f1 : Tro H enc w base held n 3 (([c0, c1, c2, c3, c4].drop 1).take (Tryz.prog.cellsOf 3)) = some (xs[1]'(by omega)) := get_of (hf 1 _ rfl) (by omega)
 have f2 : Tro H enc w base held n 37 (([c0, c1, c2, c3, c4].drop 2).take (Tryz.prog.cellsOf 37)) = some (xs[2]'(by omega)) := get_of (hf 2 _ rfl) (by omega)
 have z1 : Tryz.prog.cellsOf 3 = 1 := by kernel_rfl
 have z2 : Tryz.prog.cellsOf 37 = 3 := by kernel_rfl
 simp only [z1, z2] at f0 f1 f2
 obtain ⟨k, e0⟩ := at_int f0
 obtain ⟨i, e1⟩ := at_int f1
 obtain ⟨x, r2, l1, l2, _⟩ := at_rat f2 (bulk_agg (by omega) hb)
 simp at e0 e1
 subst e0 e1
 exact ⟨⟨k, i, x⟩, ⟨⟨rfl, .lit _⟩, ⟨rfl, .lit _⟩, r2⟩, l1, l2⟩
theorem at_mult {fuel : Nat} {cs : List Value} {y : DataW H × List MemPlace} (h : Tro H enc w base held fuel 110 cs = some y) (hb : Rows.uptoBulk y.1 ≤ 1048576) : ∃ m : Mr, Cls w cs m.D := by
 obtain ⟨xs, n, _, rfl, hl, hn, hf⟩ := DataW.trod_struct Tryz.underlying110 h
 have hn3 : xs.length = 2 := hn
 have hl3 : cs.length = 7 := by rw [hl]; kernel_rfl
 obtain ⟨c0, c1, c2, c3, c4, c5, c6, rfl⟩ : ∃ c0 c1 c2 c3 c4 c5 c6, cs = [c0, c1, c2, c3, c4, c5, c6] := by
  match cs, hl3 with
  | [c0, c1, c2, c3, c4, c5, c6], _ => exact ⟨_, _, _, _, _, _, _, rfl⟩
 have f0 : Tro H enc w base held n 108 (([c0, c1, c2, c3, c4, c5, c6].drop 0).take (Tryz.prog.cellsOf 108)) = some (xs[0]'(by omega)) := get_of (hf 0 _ rfl) (by omega)
 have f1 : Tro H enc w base held n 37 (([c0, c1, c2, c3, c4, c5, c6].drop 4).take (Tryz.prog.cellsOf 37)) = some (xs[1]'(by omega)) := get_of (hf 1 _ rfl) (by omega)
 have z1 : Tryz.prog.cellsOf 108 = 4 := by kernel_rfl
 have z2 : Tryz.prog.cellsOf 37 = 3 := by kernel_rfl
 have z3 : Tryz.prog.cellsOf 3 = 1 := by kernel_rfl
 simp only [z1, z2] at f0 f1
 obtain ⟨x, r2, l1, l2, _⟩ := at_rat f1 (bulk_agg (by omega) hb)
 obtain ⟨ys, n', _, _, _, hn', hf'⟩ := DataW.trod_struct Tryz.underlying108 f0
 have hn4 : ys.length = 4 := hn'
 have g0 : Tro H enc w base held n' 3 ((([c0, c1, c2, c3, c4, c5, c6].drop 0).take 4).drop 0 |>.take (Tryz.prog.cellsOf 3)) = some (ys[0]'(by omega)) := get_of (hf' 0 _ rfl) (by omega)
 have g1 : Tro H enc w base held n' 3 ((([c0, c1, c2, c3, c4, c5, c6].drop 0).take 4).drop 1 |>.take (Tryz.prog.cellsOf 3)) = some (ys[1]'(by omega)) := get_of (hf' 1 _ rfl) (by omega)
 have g2 : Tro H enc w base held n' 3 ((([c0, c1, c2, c3, c4, c5, c6].drop 0).take 4).drop 2 |>.take (Tryz.prog.cellsOf 3)) = some (ys[2]'(by omega)) := get_of (hf' 2 _ rfl) (by omega)
 have g3 : Tro H enc w base held n' 3 ((([c0, c1, c2, c3, c4, c5, c6].drop 0).take 4).drop 3 |>.take (Tryz.prog.cellsOf 3)) = some (ys[3]'(by omega)) := get_of (hf' 3 _ rfl) (by omega)
 simp only [z3] at g0 g1 g2 g3
 obtain ⟨k, e0⟩ := at_int g0
 obtain ⟨i, e1⟩ := at_int g1
 obtain ⟨l, e2⟩ := at_int g2
 obtain ⟨h', e3⟩ := at_int g3
 simp at e0 e1 e2 e3
 subst e0 e1 e2 e3
 exact ⟨⟨⟨k, i, l, h'⟩, x⟩, ⟨⟨rfl, .lit _⟩, ⟨rfl, .lit _⟩, ⟨rfl, .lit _⟩, ⟨rfl, .lit _⟩, r2⟩⟩
theorem all2_get {α β : Type} {R : α → β → Prop} {xs : List α} {ys : List β} (h : All2 R xs ys) {j : Nat} {x : α} (hx : xs[j]? = some x) : ∃ y, ys[j]? = some y ∧ R x y := All2.get h hx
theorem at_slice {t e : TypeId} {k : Nat} {α : Type} {f : α → List D} {Q : α → Prop} {fuel : Nat} {cs : List Value} {y : DataW H × List MemPlace} (ht : Tryz.prog.underlying t = some (.slice e)) (hk : Tryz.prog.cellsOf e = k) (hk0 : 0 < k) (hfk : ∀ a, (f a).length = k)
  (hel : ∀ (n : Nat) (cs : List Value) (y : DataW H × List MemPlace), Tro H enc w base held n e cs = some y → Rows.uptoBulk y.1 ≤ 1048576 → ∃ a : α, Cls w cs (f a) ∧ Q a)
  (h : Tro H enc w base held fuel t cs = some y) (hb : Rows.uptoBulk y.1 ≤ 1048576) : ∃ (l : List α) (v : Value), cs = [v] ∧ v.oneCell' = true ∧ RdD M0 w (.sl k (l.map f)) v ∧ l.length ≤ 1048576 ∧ ∀ a ∈ l, Q a := by
 rcases Deep.open_slice ht h with ⟨rfl, rfl⟩ | ⟨a, len, cap, m, n, D, Pl, rfl, hb1, hl, hm, hmm, rfl, hx⟩
 ·
  exact ⟨[], _, rfl, rfl, nil_ok k, zL_ _, fun a h => by cases h⟩
 ·
  have hlen : len ≤ 1048576 := by
   have := bulk_len ((List.range len).map D)
   simp only [Rows.uptoBulk, List.length_map, List.length_range] at hb this
   omega
  have hcap : len ≤ m := by rw [hmm]; simp; exact hl
  have hD : ∀ i, i < len → Rows.uptoBulk (D i) ≤ 1048576 := fun i hi => by
   have := bulk_part (d := D i) (l := (List.range len).map D) (List.mem_map.2 ⟨i, List.mem_range.2 hi, rfl⟩)
   simp only [Rows.uptoBulk] at hb
   omega
  have hE : ∀ i, i < len → ∃ p : α × List Value, w.cells? base (a.add (i * k)) k = some p.2 ∧ Cls w p.2 (f p.1) ∧ Q p.1 := fun i hi => by
   obtain ⟨cs', h1, h2⟩ := hx i (by omega)
   rw [hk] at h1
   obtain ⟨x, h3, h4⟩ := hel n cs' _ h2 (hD i hi)
   exact ⟨(x, cs'), h1, h3, h4⟩
  rcases eP_ len with h0 | h0
  ·
   subst h0
   refine ⟨[], _, rfl, rfl, ?_, zL_ _, fun a h => by cases h⟩
   exact RdD.sl k [] (some a) cap (fun _ _ => .int .i64 0) (zL_ _) (zL_ _) (fun h => by cases h) (fun i row h => by cases h) (fun _ _ => rfl) (fun i row j d h => by cases h)
  ·
   obtain ⟨p0, _⟩ := hE 0 h0
   have : Inhabited (α × List Value) := ⟨p0⟩
   obtain ⟨F, hF⟩ := Deep.choose_lt hE
   have hspot : a.spot = none := by
    obtain ⟨hb2, hl2, hc2⟩ := World.cells?_some (hF 0 h0).1
    have c0 := hc2 0 hk0
    rw [List.getElem?_eq_getElem (by omega)] at c0
    have := World.cell?_spot c0
    simpa [Addr.add] using this
   obtain ⟨bl, off, spot⟩ := a
   simp only at hspot
   subst hspot
   have hrow : ∀ (i : Nat) (row : List Lf.D), (((List.range len).map fun i => (F i).1).map f)[i]? = some row → i < len ∧ row = f (F i).1 := fun i row hi => by
    rw [List.map_map, List.getElem?_map] at hi
    cases hj : (List.range len)[i]? with
    | none => rw [hj] at hi; cases hi
    | some z =>
      rw [hj] at hi; injection hi with hi
      obtain ⟨q1, q2⟩ := List.getElem?_eq_some_iff.1 hj
      simp at q1 q2
      subst q2
      exact ⟨q1, hi.symm⟩
   have hcl : ∀ (i : Nat) (row : List Lf.D) (j : Nat) (d : Lf.D), (((List.range len).map fun i => (F i).1).map f)[i]? = some row → row[j]? = some d → ∃ v, (F i).2[j]? = some v ∧ w.cell? ⟨bl, off + i * k + j, none⟩ = some v ∧ v.oneCell' = true ∧ RdD M0 w d v := fun i row j d hi hj => by
    obtain ⟨hil, rfl⟩ := hrow i row hi
    obtain ⟨q1, q2, q3⟩ := hF i hil
    obtain ⟨v, v1, v2, v3⟩ := all2_get q2 hj
    have hjk : j < k := by have := at_lt hj; rw [hfk] at this; exact this
    obtain ⟨_, _, hc2⟩ := World.cells?_some q1
    have := hc2 j hjk
    rw [v1, Addr.add_lit, Addr.add_lit] at this
    exact ⟨v, v1, this, v2, v3⟩
   refine ⟨(List.range len).map fun i => (F i).1, _, rfl, rfl, ?_, by simp; omega, fun x hx => ?_⟩
   ·
    have hg := RdD.sl (M := M0) (w := w) k (((List.range len).map fun i => (F i).1).map f) (some ⟨bl, off, none⟩) cap (fun i j => if ((F i).2.getD j (.int .i64 0)).oneCell' then (F i).2.getD j (.int .i64 0) else .int .i64 0) (by simp; exact hl) (by simp; omega) (fun _ => ⟨bl, off, rfl, fun i row j d hi hj => ?_⟩) (fun i row hi => ?_) (fun i j => ?_) (fun i row j d hi hj => ?_)
    ·
     simpa using hg
    ·
     obtain ⟨v, v1, v2, v3, v4⟩ := hcl i row j d hi hj
     have e : (F i).2.getD j (.int .i64 0) = v := by rw [List.getD_eq_getElem?_getD, v1]; rfl
     rw [e, if_pos v3]
     exact ⟨fun h => h, v2⟩
    ·
     rw [(hrow i row hi).2]; exact hfk _
    ·
     split
     ·
      assumption
     ·
      rfl
    ·
     obtain ⟨v, v1, v2, v3, v4⟩ := hcl i row j d hi hj
     have e : (F i).2.getD j (.int .i64 0) = v := by rw [List.getD_eq_getElem?_getD, v1]; rfl
     rw [e, if_pos v3]
     exact v4
   ·
    obtain ⟨i, hi, rfl⟩ := List.mem_map.1 hx
    exact (hF i (List.mem_range.1 hi)).2.2
theorem at_decs {fuel : Nat} {cs : List Value} {y : DataW H × List MemPlace} (h : Tro H enc w base held fuel 23 cs = some y) (hb : Rows.uptoBulk y.1 ≤ 1048576) : ∃ (l : List Dc) (v : Value), cs = [v] ∧ RdD M0 w (dcsD l) v ∧ l.length ≤ 1048576 ∧ ∀ d ∈ l, DcW d := by
 obtain ⟨l, v, h1, _, h2, h3, h4⟩ := at_slice (f := Dc.D) (Q := DcW) Tryz.underlying23 (k := 5) (by kernel_rfl) (by decide) (fun _ => rfl) (fun n cs y h hb => at_dec h hb) h hb
 exact ⟨l, v, h1, h2, h3, h4⟩
theorem at_lem {fuel : Nat} {cs : List Value} {y : DataW H × List MemPlace} (h : Tro H enc w base held fuel 69 cs = some y) (hb : Rows.uptoBulk y.1 ≤ 1048576) : ∃ m : Lm, Cls w cs m.D ∧ LmW m := by
 obtain ⟨xs, n, _, rfl, hl, hn, hf⟩ := DataW.trod_struct Tryz.underlying69 h
 have hn3 : xs.length = 4 := hn
 have hl3 : cs.length = 6 := by rw [hl]; kernel_rfl
 obtain ⟨c0, c1, c2, c3, c4, c5, rfl⟩ : ∃ c0 c1 c2 c3 c4 c5, cs = [c0, c1, c2, c3, c4, c5] := by
  match cs, hl3 with
  | [c0, c1, c2, c3, c4, c5], _ => exact ⟨_, _, _, _, _, _, rfl⟩
 have f0 : Tro H enc w base held n 3 (([c0, c1, c2, c3, c4, c5].drop 0).take (Tryz.prog.cellsOf 3)) = some (xs[0]'(by omega)) := get_of (hf 0 _ rfl) (by omega)
 have f1 : Tro H enc w base held n 4 (([c0, c1, c2, c3, c4, c5].drop 1).take (Tryz.prog.cellsOf 4)) = some (xs[1]'(by omega)) := get_of (hf 1 _ rfl) (by omega)
 have f2 : Tro H enc w base held n 37 (([c0, c1, c2, c3, c4, c5].drop 2).take (Tryz.prog.cellsOf 37)) = some (xs[2]'(by omega)) := get_of (hf 2 _ rfl) (by omega)
 have f3 : Tro H enc w base held n 67 (([c0, c1, c2, c3, c4, c5].drop 5).take (Tryz.prog.cellsOf 67)) = some (xs[3]'(by omega)) := get_of (hf 3 _ rfl) (by omega)
 have z1 : Tryz.prog.cellsOf 3 = 1 := by kernel_rfl
 have z2 : Tryz.prog.cellsOf 37 = 3 := by kernel_rfl
 have z3 : Tryz.prog.cellsOf 4 = 1 := by kernel_rfl
 have z4 : Tryz.prog.cellsOf 67 = 1 := by kernel_rfl
 simp only [z1, z2, z3, z4] at f0 f1 f2 f3
 obtain ⟨u, e0⟩ := at_int f0
 obtain ⟨up, e1⟩ := at_bool f1
 obtain ⟨x, ⟨r2, r3, r4, _⟩, l1, l2, _⟩ := at_rat f2 (bulk_agg (by omega) hb)
 obtain ⟨mrs, v, e3, o3, q3, q4, _⟩ := at_slice (f := Mr.D) (Q := fun _ => True) Tryz.underlying67 (k := 7) (by kernel_rfl) (by decide) (fun _ => rfl) (fun n cs y h hb => let ⟨m, hm⟩ := at_mult h hb; ⟨m, hm, trivial⟩) f3 (bulk_agg (by omega) hb)
 simp at e0 e1 e3
 subst e0 e1 e3
 exact ⟨⟨u, up, x, mrs.map Mr.D⟩, ⟨⟨rfl, .lit _⟩, ⟨rfl, .lit _⟩, r2, r3, r4, ⟨o3, q3⟩, trivial⟩, l1, l2, by simp; omega, mrs, rfl⟩
theorem at_lems {fuel : Nat} {cs : List Value} {y : DataW H × List MemPlace} (h : Tro H enc w base held fuel 24 cs = some y) (hb : Rows.uptoBulk y.1 ≤ 1048576) : ∃ (l : List Lm) (v : Value), cs = [v] ∧ RdD M0 w (lmsD l) v ∧ l.length ≤ 1048576 ∧ ∀ m ∈ l, LmW m := by
 obtain ⟨l, v, h1, _, h2, h3, h4⟩ := at_slice (f := Lm.D) (Q := LmW) Tryz.underlying24 (k := 6) (by kernel_rfl) (by decide) (fun _ => rfl) (fun n cs y h hb => at_lem h hb) h hb
 exact ⟨l, v, h1, h2, h3, h4⟩
theorem at_rats {fuel : Nat} {cs : List Value} {y : DataW H × List MemPlace} (h : Tro H enc w base held fuel 30 cs = some y) (hb : Rows.uptoBulk y.1 ≤ 1048576) : ∃ (l : List Rw) (v : Value), cs = [v] ∧ RdD M0 w (.sl 3 (l.map Rw.D)) v ∧ l.length ≤ 1048576 ∧ ∀ x ∈ l, (lims x.n ∧ lims x.d) ∧ x.sm := by
 obtain ⟨l, v, h1, _, h2, h3, h4⟩ := at_slice (f := Rw.D) (Q := fun x => (lims x.n ∧ lims x.d) ∧ x.sm) Tryz.underlying30 (k := 3) (by kernel_rfl) (by decide) (fun _ => rfl) (fun n cs y h hb => let ⟨x, h1, h2, h3, h4⟩ := at_rat h hb; ⟨x, h1, ⟨h2, h3⟩, h4⟩) h hb
 exact ⟨l, v, h1, h2, h3, h4⟩
end
end Go.Proofs.YtikglhmabidjoaaGreat.Lf
