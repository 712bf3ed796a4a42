/- Layer 38: the iterator over the open units, and what collects it: by hand. -/
import Derived.Test.YtikglhmabidjoaaGreatDoorLgH
import Derived.RangeFuncBox
import Derived.RangeFuncLeaves
import Derived.Shelf.Abstract
import Derived.OwnWalkIn
import Derived.TacticsInMore
import Derived.LoopNIn
import Derived.LoopIn
import Derived.Maps.AppendAt
namespace Go.Proofs.YtikglhmabidjoaaGreatDoor.Lf
open Go.RowKit Nt
set_option linter.unusedVariables false
set_option linter.unusedSimpArgs false
attribute [local go_sem] Oper.semAt_some
abbrev M0 : MS := fun _ _ => False
def γ0 : Gh := fun _ => undef
theorem rel0 {M : MS} {w : World} (h : Glb M w) : Rel γ0 (look []) M0 w :=
  ⟨fun key e he => absurd he (by simp [look]), fun key b i ho => by simp [Owns, look] at ho, fun k1 k2 b l1 => by simp [look, live] at l1, fun b i n h => h.elim, fun b i h => h.elim, h.fx fun b i v k => ⟨fun h => h, k.2⟩⟩
theorem toM0 {M : MS} {w : World} {d : D} {v : Value} (h : RdD M w d v) : RdD M0 w d v := h.fx fun b i v k => ⟨fun h => h, k.2⟩
theorem fx_below {w w' : World} (h : Below w.heap.size w w') : ∀ b i v, Fx M0 w b i v → Fx M0 w' b i v := fun b i v k =>
  ⟨fun h => h, by rw [World.cell?_of_block (w := w) (a := ⟨b, i, none⟩) (h.block b (World.block_lt_of_cell? _ _ k.2))]; exact k.2⟩
theorem lv_at {P : Program} {F : FuncId} {args : List V} {v : V} (h : LV P F args v) {w : World} {rs : List Value} (hG : Glb M0 w) (ha : All2 (RdV γ0 (look []) M0 w) args rs) :
    Calls P F rs.toArray w fun e w' => ∃ r, e = .returned r ∧ Below w.heap.size w w' ∧ ∃ γ' M', RdV γ' (look []) M' w' v r := by
  obtain ⟨v', H', ⟨rfl, rfl⟩, hc⟩ := h
  refine Calls.mono (hc γ0 M0 w rs (rel0 hG) ha) ?_
  rintro e w' ⟨r, γ', M', h1, h2, h3, h4⟩
  exact ⟨r, h1, ⟨h4.os, h4.tape, h4.output, h4.size, fun k hk => h4.other k hk fun key i ho => by simp [Owns, look] at ho⟩, γ', M', h3⟩
theorem lv_lit {P : Program} {F : FuncId} {args : List V} {u : Value} (h : LV P F args (vl u)) {w : World} {rs : List Value} (hG : Glb M0 w) (ha : All2 (RdV γ0 (look []) M0 w) args rs) :
    Calls P F rs.toArray w fun e w' => e = .returned u ∧ Below w.heap.size w w' := by
  refine Calls.mono (lv_at h hG ha) ?_
  rintro e w' ⟨r, rfl, h1, γ', M', h2⟩
  exact ⟨by rw [show r = u from lit_inv h2], h1⟩
def ScW (s : Sp) (w : World) (vs : List Value) : Prop := All2 (RdA γ0 (look []) M0 w) s.A vs
theorem ScW.to {s : Sp} {w w' : World} {vs : List Value} (h : ScW s w vs) (hb : Below w.heap.size w w') : ScW s w' vs :=
  All2.imp (fun x v k => RdA.stp ⟨hb.os, hb.tape, hb.output, hb.size, fx_below hb, fun b hlt _ => hb.block b hlt, fun b i k _ => k, fun key b i ho _ => ⟨key, ho⟩, fun key e he => ⟨e, he, Goes.refl e, .inl rfl⟩⟩ k) h
theorem rd_slice {k : Nat} {xs : List (List D)} {M : MS} {w : World} {v : Value} (h : RdD M w (.sl k xs) v) : ∃ a c, v = .slice a xs.length c := by
  cases h; exact ⟨_, _, rfl⟩
theorem ScW.open {s : Sp} {w : World} {vs : List Value} (h : ScW s w vs) : ∃ a1 c1 v2 v3 v4 v5 v6 v7 v8 v9 v10 v11, vs = [.int .i64 s.q.g.n, .slice a1 s.q.g.us.length c1, v2, v3, v4, v5, v6, v7, v8, v9, v10, v11] := by
  match vs, h with
  | [v0, v1, v2, v3, v4, v5, v6, v7, v8, v9, v10, v11], h =>
    obtain ⟨h0, h1, _⟩ := h
    obtain ⟨a, c, e⟩ := rd_slice (show RdD M0 w (.sl 4 (s.q.g.us.map Af.D)) v1 from h1)
    rw [List.length_map] at e
    rw [show v0 = .int .i64 s.q.g.n from lit_inv h0, e]
    exact ⟨a, c, _, _, _, _, _, _, _, _, _, _, rfl⟩
def openB (s : Sp) (j : Nat) : Bool := phaseS s j == 0
def openTo (s : Sp) (k : Nat) : List Nat := (List.range k).filter (openB s)
def openS (s : Sp) : List Nat := openTo s s.q.g.us.length
theorem openTo_succ (s : Sp) (k : Nat) : openTo s (k + 1) = if openB s k = true then openTo s k ++ [k] else openTo s k := by
  simp only [openTo, List.range_succ, List.filter_append]
  split <;> simp_all
theorem openTo_len (s : Sp) (k : Nat) : (openTo s k).length ≤ k := by
  have := List.length_filter_le (openB s) (List.range k)
  simpa [openTo] using this
theorem openTo_pre (s : Sp) {k n : Nat} (h : k ≤ n) : openTo s k <+: openTo s n := by
  induction n with
  | zero => rw [show k = 0 by omega]; exact List.prefix_refl _
  | succ n ih =>
    rcases Nat.lt_or_ge n k with h1 | h1
    · rw [show k = n + 1 by omega]; exact List.prefix_refl _
    · refine (ih h1).trans ?_
      rw [openTo_succ]
      split
      · exact List.prefix_append _ _
      · exact List.prefix_refl _
abbrev encN (j : Nat) : Value := .int .i64 (j : Int)
set_option maxRecDepth 100000 in
set_option maxHeartbeats 1000000 in
theorem open1_in {s : Sp} (hs : SpOk s) (n : Nat) (hn : 1 ≤ n) (l g : Nat) (w : World) (hG : Glb M0 w) (vs : List Value) (hv : ScW s w vs) (hg : w.heap[g]? = some (.cells vs.toArray 43 (0, 0))) (J Jx : List Nat → World → Prop)
    (B : Nat) (hJ : AbidesFrom B J) (hY : ∀ pre x W, J pre W → pre.length < s.q.g.us.length → YieldAt Fence.wide (n - 1) Tryz.prog l #[encN x] W fun e W' =>
      (e = .returned (.bool true) ∧ J (pre ++ [x]) W' ∧ Below w.heap.size W W') ∨ (e = .returned (.bool false) ∧ Jx (pre ++ [x]) W'))
    (W : World) (hW : Below w.heap.size w W) (h0 : J [] W) :
    CallsIn Fence.wide n Tryz.prog 66 #[.func (.yield l) #[] #[], .pointer (some ⟨g, 0, none⟩)] W fun e W' => (∃ v, e = .returned v) ∧
      ((∃ ys, ys = openS s ∧ J ys W') ∨ (∃ pre, pre <+: openS s ∧ Jx pre W')) := by
  have hul := hs.q.g.u1
  obtain ⟨a1, c1, v2, v3, v4, v5, v6, v7, v8, v9, v10, v11, rfl⟩ := hv.open
  have hgl : g < w.heap.size := (Array.getElem?_eq_some_iff.1 hg).1
  have hcell : ∀ {W' : World}, Below w.heap.size w W' → W'.heap[g]? = some (.cells [.int .i64 s.q.g.n, .slice a1 s.q.g.us.length c1, v2, v3, v4, v5, v6, v7, v8, v9, v10, v11].toArray 43 (0, 0)) := fun h => (h.block g hgl).trans hg
  have hGl : ∀ {W' : World}, Below w.heap.size w W' → Glb M0 W' := fun h => hG.fx (fx_below h)
  refine callsIn_of_wp Tryz.func66 rfl trivial ?_ rfl
  simp only [Tryz.ntmps66, List.size_toArray, List.length_cons, List.length_nil, Nat.reduceAdd, Nat.reduceSub, Array.replicate_succ, Array.replicate_zero, List.push_toArray, List.append_toArray, List.nil_append, List.cons_append]
  have cf : ∀ {W' : World}, Below w.heap.size w W' → W'.cell? ⟨g, 0, none⟩ = some (.int .i64 s.q.g.n) ∧ W'.cell? ⟨g, 1, none⟩ = some (.slice a1 s.q.g.us.length c1) ∧ W'.cell? ⟨g, 2, none⟩ = some v2 ∧ W'.cell? ⟨g, 3, none⟩ = some v3 ∧ W'.cell? ⟨g, 4, none⟩ = some v4 ∧ W'.cell? ⟨g, 5, none⟩ = some v5 ∧ W'.cell? ⟨g, 6, none⟩ = some v6 ∧
      W'.cell? ⟨g, 7, none⟩ = some v7 ∧ W'.cell? ⟨g, 8, none⟩ = some v8 ∧ W'.cell? ⟨g, 9, none⟩ = some v9 ∧ W'.cell? ⟨g, 10, none⟩ = some v10 ∧ W'.cell? ⟨g, 11, none⟩ = some v11 := fun h => by
    have := hcell h
    simp only [World.cell?, this]
    exact ⟨rfl, rfl, rfl, rfl, rfl, rfl, rfl, rfl, rfl, rfl, rfl, rfl⟩
  obtain ⟨d0, d1, d2, d3, d4, d5, d6, d7, d8, d9, d10, d11⟩ := cf hW
  have hvW := hv.to hW
  gi_wp2_with fail
  refine ⟨trivial, (callsIn_wide.2 (lv_lit (rs := [.agg #[.int .i64 s.q.g.n, .slice a1 s.q.g.us.length c1, v2, v3, v4, v5, v6, v7, v8, v9]]) (lx_quvalid hs.q) (hGl hW) ⟨⟨[.int .i64 s.q.g.n, .slice a1 s.q.g.us.length c1, v2, v3, v4, v5, v6, v7, v8, v9], rfl, hvW.1, hvW.2.1, hvW.2.2.1, hvW.2.2.2.1, hvW.2.2.2.2.1, hvW.2.2.2.2.2.1, hvW.2.2.2.2.2.2.1, hvW.2.2.2.2.2.2.2.1, hvW.2.2.2.2.2.2.2.2.1, hvW.2.2.2.2.2.2.2.2.2.1, trivial⟩, trivial⟩)).mono ?_⟩
  rintro e W1 ⟨rfl, hb1⟩
  have hW1 : Below w.heap.size w W1 := hW.trans (hb1.mono hW.size)
  clear d0 d1 d2 d3 d4 d5 d6 d7 d8 d9 d10 d11
  obtain ⟨d0, d1, d2, d3, d4, d5, d6, d7, d8, d9, d10, d11⟩ := cf hW1
  gi_wp2_with fail
  gi_loopw [13] (fun i wr => ∃ k : Nat, k ≤ s.q.g.us.length ∧ i = .int .i64 k ∧ Below w.heap.size w wr ∧ J (openTo s k) wr) (fun i _ => s.q.g.us.length - (intOf i).toNat)
  case atStart => exact ⟨0, Nat.zero_le _, rfl, hW1, hJ _ _ _ none h0 ⟨hb1.os, hb1.tape, hb1.output, hb1.size, fun i hi _ => hb1.block i hi⟩ (fun r e => by cases e)⟩
  case round =>
    obtain ⟨k, hk, rfl, hWr, hJr⟩ := hrel
    clear d0 d1 d2 d3 d4 d5 d6 d7 d8 d9 d10 d11
    obtain ⟨d0, d1, d2, d3, d4, d5, d6, d7, d8, d9, d10, d11⟩ := cf hWr
    have hvr := hv.to hWr
    gi_wp2_with fail
    · have hlt : k < s.q.g.us.length := by assumption
      refine ⟨trivial, (callsIn_wide.2 (lv_lit (rs := [.agg #[.int .i64 s.q.g.n, .slice a1 s.q.g.us.length c1, v2, v3, v4, v5, v6, v7, v8, v9, v10, v11], .int .i64 k]) (lx_phase hs (u := k)) (hGl hWr) ⟨⟨_, rfl, hvr⟩, .lit _, trivial⟩)).mono ?_⟩
      rintro e W2 ⟨rfl, hb2⟩
      have hW2 : Below w.heap.size w W2 := hWr.trans (hb2.mono hWr.size)
      have hJ2 : J (openTo s k) W2 := hJ _ _ _ none hJr ⟨hb2.os, hb2.tape, hb2.output, hb2.size, fun i hi _ => hb2.block i hi⟩ (fun r e => by cases e)
      have hlen := openTo_len s k
      by_cases ho : openB s k = true
      · have ho' : (phaseS s k == 0) = true := ho
        obtain ⟨fn, tmps, assign, body, hy, hR⟩ := hY (openTo s k) k W2 hJ2 (by omega)
        dsimp only [encN] at hy
        gi_wp2
        refine hR.mono ?_
        rintro e W3 (⟨rfl, hJ3, hk3⟩ | ⟨rfl, hJx3⟩)
        · gi_wp2
          exact ⟨⟨k + 1, by omega, by go_num, hW2.trans hk3, by rw [openTo_succ, if_pos ho]; exact hJ3⟩, by simp [intOf]; omega⟩
        · gi_wp2
          refine bodyPost_ret (results_none rfl _ _ _) rfl ?_
          refine ⟨⟨_, rfl⟩, .inr ⟨openTo s k ++ [k], ?_, hJx3⟩⟩
          have := openTo_pre s (show k + 1 ≤ s.q.g.us.length from hlt)
          rwa [openTo_succ, if_pos ho] at this
      · have ho' : (phaseS s k == 0) = false := by
          cases h : (phaseS s k == 0) with
          | true => exact absurd h ho
          | false => rfl
        gi_wp2
        refine ⟨fun f h => (by cases h), ?_⟩
        gi_wp2
        exact ⟨⟨k + 1, by omega, by go_num, hW2, by rw [openTo_succ, if_neg ho]; exact hJ2⟩, by simp [intOf]; omega⟩
    · have e : k = s.q.g.us.length := by omega
      subst e
      go_end0
      exact ⟨⟨_, rfl⟩, .inl ⟨_, rfl, hJr⟩⟩
theorem open_stops {s : Sp} (hs : SpOk s) (n : Nat) (hn : 1 ≤ n) (g : Nat) (w w0 : World) (hw0 : Below w.heap.size w w0) (hG : Glb M0 w) (vs : List Value) (hv : ScW s w vs) (hg : w.heap[g]? = some (.cells vs.toArray 43 (0, 0))) :
    SeqStopsK Fence.wide n Tryz.prog 66 #[.pointer (some ⟨g, 0, none⟩)] (fun x : Nat => #[encN x]) (Below w.heap.size) (fun ys => ys = openS s) (fun pre => pre <+: openS s) s.q.g.us.length w0 := fun l J Jx W hW hJ _ hY h0 =>
  open1_in hs n hn l g w hG vs hv hg J Jx _ hJ hY W (hw0.trans (hW.mono hw0.size)) h0
theorem i_int : (Tryz.prog.info? 3).map (fun i => (i.zero, i.size, i.bytes)) = some (some (.int .i64 0), 1, 8) := by kernel_rfl
theorem u_ints : Tryz.prog.underlying 50 = some (.slice 3) := by kernel_rfl
theorem openS_len (s : Sp) : (openS s).length ≤ s.q.g.us.length := openTo_len s _
set_option maxRecDepth 100000 in
set_option maxHeartbeats 2000000 in
theorem appendSeq_in {s : Sp} (hs : SpOk s) (n : Nat) (hn : 3 ≤ n) (g : Nat) (w : World) (hG : Glb M0 w) (vs : List Value) (hv : ScW s w vs) (hg : w.heap[g]? = some (.cells vs.toArray 43 (0, 0))) :
    CallsIn Fence.wide n Tryz.prog 65 #[.slice none 0 0, .func (.func 66) #[] #[.pointer (some ⟨g, 0, none⟩)]] w fun e W' =>
      ∃ v, e = .returned v ∧ W'.ownsRow w.heap.size 3 1 v (openS s).length ((openS s).map encN) ∧ Below w.heap.size w W' := by
  have h1 : 1 ≤ n := by omega
  have hul := hs.q.g.u1
  obtain ⟨i0, hi, hz0, hz1, hz2⟩ := info_parts i_int
  refine callsIn_of_wp_marks Tryz.func65 rfl trivial ?_ rfl
  simp only [Tryz.ntmps65, List.size_toArray, List.length_cons, List.length_nil, Nat.reduceAdd, Nat.reduceSub, Array.replicate_succ, Array.replicate_zero, List.push_toArray, List.append_toArray, List.nil_append, List.cons_append]
  gi_wp2
  have bO := Boxed.new w 50 (.slice none 0 0)
  have hB0 : Below w.heap.size w (w.alloc (.cells #[.slice none 0 0] 50)) := (Below.refl _ w).alloc (Nat.le_refl _) _
  refine wpIn_rangeFunc_ownG rfl h1 (gf := 66) (lb := #[.pointer (some ⟨g, 0, none⟩)]) rfl trivial (enters_of Tryz.func66 (by kernel_rfl) rfl)
    (open_stops hs (n - 1) (by omega) g w _ hB0 hG vs hv hg) belowK_t (belowK_b (by simp)) (Below.refl _ _) (fun _ => rfl)
    (fun pre W => (∃ v, Boxed W w.heap.size 50 v ∧ W.ownsRow w.heap.size 3 1 v pre.length (pre.map encN) ∧ True) ∧ Below w.heap.size w W)
    (fun _ _ _ => False)
    (OwnFrom.and (Own.from (holdsRow_own w.heap.size w.heap.size 50 3 1 (fun pre : List Nat => pre.length) (fun pre => pre.map encN) (fun _ _ => True)) _) (ownFrom_below (Nat.le_refl _) (by simp)))
    (fun _ _ _ _ _ hs _ _ => hs)
    ⟨⟨_, bO, World.ownsRow_nil _ _ _ _, trivial⟩, hB0⟩
    (fun x => { tmps := #[.slice none 0 0, .func (.func 66) #[] #[.pointer (some ⟨g, 0, none⟩)], .pointer (some ⟨w.heap.size, 0, none⟩), undef, .slice none 0 0, encN x, .func (.func 66) #[] #[.pointer (some ⟨g, 0, none⟩)], encN x, undef, undef, undef, undef, undef], defers := [] }) ?assign ?body ?done ?stop
  case assign =>
    intro l x W K hK
    gi_wp2
    exact hK
  case body =>
    rintro l pre x W ⟨⟨v, hv, hrow, hnil⟩, hB⟩ hlt
    have hc := hv.cell
    gi_wp2_with (gi_at_builtin; refine wpListIn_append_own _ rfl _ _ 50 rfl w.heap.size 3 i0 (.int .i64 0) 1 8 u_ints hi hz0 hz1 hz2 rfl (by decide) _ _ _ rfl (hrow.alloc _) ⟨W.heap.size, 0, none⟩ 1 1 [encN x] rfl rfl (cell_one_new _ _ _) (by simp [Value.oneCell']) (by unfold maxLen; omega) (by omega) (by have := hB.size; simp; omega) ?_; intro v' w1 hown' hgrow _; obtain ⟨g', cap', rfl⟩ := ownsRow_succ hown'; obtain ⟨hv1, hv2, hr2, hk2, hb2⟩ := hv.appended (by decide) hrow hB.size (Nat.le_refl _) hown' hgrow; have hc1 := hv1.cell; have hf1 := hv1.frozen)
    exact ⟨hk2.from _, hb2, ⟨_, hv2, by simpa using hr2, trivial⟩, hB.trans hb2⟩
  case done =>
    rintro D ys W hD rfl ⟨⟨v, hv, hrow, hnil⟩, hB⟩ hK
    have hc := hv.cell
    gi_wp2
    refine ⟨by simp, .inl ⟨_, _, rfl, run_takeDeferred hK, ?_⟩⟩
    exact ⟨_, results_tmp rfl _ _ _, v, rfl, ownsRow_putObj hrow _ hK rfl, hB.trans (belowK_b (w := w) (Nat.le_refl _) W D _ _ (by simp at hD; omega) hK rfl rfl)⟩
  case stop =>
    rintro D c pre W _ _ h _
    exact h.elim
end Go.Proofs.YtikglhmabidjoaaGreatDoor.Lf
