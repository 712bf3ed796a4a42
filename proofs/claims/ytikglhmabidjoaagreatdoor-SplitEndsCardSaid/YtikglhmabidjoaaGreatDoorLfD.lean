/- Lifted values: append, slices that are written out. No program in sight. -/
import Derived.Test.YtikglhmabidjoaaGreatDoorLfC
namespace Go.Proofs.YtikglhmabidjoaaGreatDoor.Lf
open Go.RowKit Nt
set_option linter.unusedVariables false
set_option linter.unusedSimpArgs false
section
variable {γ γ' : Gh} {h h' : Hp} {M M' : MS} {w w' : World} {T T' : Nat → Option V} {a : Act} {P : Program}
theorem ix_lt {i j n k : Nat} (hi : i < n) (hj : j < k) : i * k + j < n * k := by
  have := Nat.mul_le_mul_right k (show i + 1 ≤ n from hi)
  rw [Nat.add_mul] at this; omega
theorem sl_cells {k : Nat} {xs : List (List D)} {ad : Option Addr} {n cap : Nat} (hx : RdD M w (.sl k xs) (.slice ad n cap)) (hk0 : 0 < k) :
    xs.length = n ∧ n ≤ cap ∧ n ≤ 1099511627776 ∧ (∀ (i : Nat) (row : List D), xs[i]? = some row → row.length = k) ∧ ∃ cells : List Value, cells.length = n * k ∧ (∀ c ∈ cells, c.oneCell' = true) ∧
      (0 < n → ∃ b o, ad = some ⟨b, o, none⟩ ∧ ∀ (q : Nat) u, cells[q]? = some u → Fx M w b (o + q) u) ∧
      ∀ (i : Nat) (row : List D) (j : Nat) (d : D), xs[i]? = some row → row[j]? = some d → ∃ u, cells[i * k + j]? = some u ∧ RdD M w d u := by
  cases hx with
  | sl k xs ad cap vs hc hl h0 hk h1 hr =>
    have hget : ∀ q, q < xs.length * k → ((List.range (xs.length * k)).map fun q => vs (q / k) (q % k))[q]? = some (vs (q / k) (q % k)) := by
      intro q hq; rw [List.getElem?_map, List.getElem?_range hq]; rfl
    refine ⟨rfl, hc, hl, hk, (List.range (xs.length * k)).map fun q => vs (q / k) (q % k), by simp, fun c hm => ?_, fun hp => ?_, fun i row j d hi hj => ?_⟩
    · obtain ⟨q, _, rfl⟩ := List.mem_map.1 hm; exact h1 _ _
    · obtain ⟨b, o, e, hf⟩ := h0 hp
      refine ⟨b, o, e, fun q u hq => ?_⟩
      have hlt : q < xs.length * k := by have := (List.getElem?_eq_some_iff.1 hq).1; simpa using this
      rw [hget q hlt] at hq
      injection hq with hq; subst hq
      have hi : q / k < xs.length := (Nat.div_lt_iff_lt_mul hk0).2 hlt
      have hrow : xs[q / k]? = some xs[q / k] := List.getElem?_eq_getElem hi
      have hj : q % k < xs[q / k].length := by rw [hk _ _ hrow]; exact Nat.mod_lt _ hk0
      have := hf (q / k) _ (q % k) _ hrow (List.getElem?_eq_getElem hj)
      rwa [Nat.add_assoc, show q / k * k + q % k = q from by rw [Nat.mul_comm]; exact Nat.div_add_mod q k] at this
    · have hi' := (List.getElem?_eq_some_iff.1 hi).1
      have hj' : j < k := by rw [← hk i row hi]; exact (List.getElem?_eq_some_iff.1 hj).1
      refine ⟨_, hget _ (ix_lt hi' hj'), ?_⟩
      have e1 : (i * k + j) / k = i := by rw [Nat.mul_comm, Nat.mul_add_div hk0, Nat.div_eq_of_lt hj']; rfl
      have e2 : (i * k + j) % k = j := by rw [Nat.mul_comm, Nat.mul_add_mod, Nat.mod_eq_of_lt hj']
      rw [e1, e2]
      exact hr i row j d hi hj
theorem sl_of {k : Nat} {xs : List (List D)} {ad : Option Addr} {cap : Nat} {cells : List Value} (hc : xs.length ≤ cap) (hl : xs.length ≤ 1099511627776) (hk : ∀ (i : Nat) (row : List D), xs[i]? = some row → row.length = k)
    (hcl : cells.length = xs.length * k) (h1 : ∀ c ∈ cells, c.oneCell' = true) (h0 : 0 < xs.length → ∃ b o, ad = some ⟨b, o, none⟩ ∧ ∀ (q : Nat) u, cells[q]? = some u → Fx M w b (o + q) u)
    (hr : ∀ (i : Nat) (row : List D) (j : Nat) (d : D), xs[i]? = some row → row[j]? = some d → ∃ u, cells[i * k + j]? = some u ∧ RdD M w d u) : RdD M w (.sl k xs) (.slice ad xs.length cap) := by
  refine .sl k xs ad cap (fun i j => (cells[i * k + j]?).getD (.bool true)) hc hl (fun hp => ?_) hk (fun i j => ?_) (fun i row j d hi hj => ?_)
  · obtain ⟨b, o, e, hf⟩ := h0 hp
    refine ⟨b, o, e, fun i row j d hi hj => ?_⟩
    obtain ⟨u, hu, _⟩ := hr i row j d hi hj
    have := hf _ _ hu
    rw [hu]
    rwa [← Nat.add_assoc] at this
  · cases hq : cells[i * k + j]? with
    | none => rfl
    | some u => exact h1 u (List.mem_of_getElem? hq)
  · obtain ⟨u, hu, h2⟩ := hr i row j d hi hj
    rw [hu]; exact h2
theorem rows_app {k : Nat} {xs ys : List (List D)} {cx cy : List Value} (hl : cx.length = xs.length * k) (hkx : ∀ (i : Nat) (row : List D), xs[i]? = some row → row.length = k)
    (hx : ∀ (i : Nat) (row : List D) (j : Nat) (d : D), xs[i]? = some row → row[j]? = some d → ∃ u, cx[i * k + j]? = some u ∧ RdD M w d u)
    (hy : ∀ (i : Nat) (row : List D) (j : Nat) (d : D), ys[i]? = some row → row[j]? = some d → ∃ u, cy[i * k + j]? = some u ∧ RdD M w d u) :
    ∀ (i : Nat) (row : List D) (j : Nat) (d : D), (xs ++ ys)[i]? = some row → row[j]? = some d → ∃ u, (cx ++ cy)[i * k + j]? = some u ∧ RdD M w d u := by
  intro i row j d hi hj
  by_cases hlt : i < xs.length
  · rw [List.getElem?_append_left hlt] at hi
    obtain ⟨u, h1, h2⟩ := hx i row j d hi hj
    exact ⟨u, by rw [List.getElem?_append_left (List.getElem?_eq_some_iff.1 h1).1]; exact h1, h2⟩
  · rw [List.getElem?_append_right (by omega)] at hi
    obtain ⟨u, h1, h2⟩ := hy _ row j d hi hj
    refine ⟨u, ?_, h2⟩
    have e : i * k + j = cx.length + ((i - xs.length) * k + j) := by
      rw [hl, ← Nat.add_assoc, ← Nat.add_mul]; congr 2; omega
    rw [e, List.getElem?_append_right (by omega), Nat.add_sub_cancel_left]
    exact h1
theorem rows_len {k : Nat} {xs ys : List (List D)} (hx : ∀ (i : Nat) (row : List D), xs[i]? = some row → row.length = k) (hy : ∀ (i : Nat) (row : List D), ys[i]? = some row → row.length = k) :
    ∀ (i : Nat) (row : List D), (xs ++ ys)[i]? = some row → row.length = k := by
  intro i row hi
  rcases List.mem_append.1 (List.mem_of_getElem? hi) with hm | hm
  · obtain ⟨j, hj⟩ := List.mem_iff_getElem?.1 hm; exact hx j row hj
  · obtain ⟨j, hj⟩ := List.mem_iff_getElem?.1 hm; exact hy j row hj
theorem own_moved (r : Rel γ h M w) {key : Nat} {e : TypeId} {k n : Nat} {olds : Option Ent} (hkey : h key = olds) (hold : olds = none ∨ ∃ n0, olds = some (.arr e k n0) ∧ n0 < n) {xs : List (List D)} {cells : List Value} {cap : Nat} {cs : Array Value} (hk0 : 0 < k)
    (hn : xs.length = n) (hc : n ≤ cap) (hcm : cap ≤ maxLen) (hl : n ≤ 1099511627776) (hk : ∀ (i : Nat) (row : List D), xs[i]? = some row → row.length = k) (hcl : cells.length = n * k) (h1 : ∀ c ∈ cells, c.oneCell' = true)
    (hr : ∀ (i : Nat) (row : List D) (j : Nat) (d : D), xs[i]? = some row → row[j]? = some d → ∃ u, cells[i * k + j]? = some u ∧ RdD M w d u)
    (hcs : cs.size = cap * k) (htk : cs.toList.take (n * k) = cells) (hu : ∀ (i : Nat) (x : Value), n * k ≤ i → cs[i]? = some x → ∀ z : Int, x ≠ .int .u32 z) {w1 : World} (h0 : w1.heap = w.heap) (h4 : w1.os = w.os) (h2 : w1.tape = w.tape) (h3 : w1.output = w.output) :
    ∃ γ' M', Rel γ' (over [(key, .arr e k n)] h) M' (w1.alloc (.cells cs e)) ∧ RdV γ' (over [(key, .arr e k n)] h) M' (w1.alloc (.cells cs e)) (.a (.own key k xs)) (.slice (some ⟨w.heap.size, 0, none⟩) n cap) ∧
      Stp γ h M w γ' (over [(key, .arr e k n)] h) M' (w1.alloc (.cells cs e)) := by
  have hn1 : ∀ e1, h key = some e1 → Goes e1 (.arr e k n) ∧ Grown1 e1 (.arr e k n) := by
    intro e1 he
    rcases hold with h5 | ⟨n0, h5, h6⟩
    · rw [hkey, h5] at he; cases he
    · rw [hkey, h5] at he; injection he with he; subst he; exact ⟨Nat.le_of_lt h6, h6⟩
  have hb : ∀ b, blk (.slice (some ⟨w.heap.size, 0, none⟩) n cap) = some b → b = w.heap.size := by intro b hb; simp [blk] at hb; exact hb.symm
  have s := stp_new r hn1 (v := .slice (some ⟨w.heap.size, 0, none⟩) n cap) (cs := cs) (t := e) h0 h4 h2 h3 (m := n * k) hb
  have hcell : ∀ (q : Nat) (u : Value), cells[q]? = some u → cs[q]? = some u := by
    intro q u hq
    have hlt := (List.getElem?_eq_some_iff.1 hq).1
    rw [← htk, List.getElem?_take, if_pos (by omega)] at hq
    simpa using hq
  have hnew : ∀ (q : Nat) (u : Value), cells[q]? = some u → Fx (fun b i => M b i ∨ b = w.heap.size ∧ n * k ≤ i) (w1.alloc (.cells cs e)) w.heap.size q u := by
    intro q u hq
    have hlt := (List.getElem?_eq_some_iff.1 hq).1
    refine ⟨fun hm => ?_, ?_⟩
    · rcases hm with hm | hm
      · have := r.dom _ _ hm; omega
      · omega
    · rw [← h0, World.cell?_alloc_new]; exact hcell q u hq
  have hrd : RdD (fun b i => M b i ∨ b = w.heap.size ∧ n * k ≤ i) (w1.alloc (.cells cs e)) (.sl k xs) (.slice (some ⟨w.heap.size, 0, none⟩) n cap) := by
    subst hn
    refine sl_of hc hl hk hcl h1 (fun _ => ⟨_, 0, rfl, fun q u hq => by rw [Nat.zero_add]; exact hnew q u hq⟩) fun i row j d hi hj => ?_
    obtain ⟨u, hu1, hu2⟩ := hr i row j d hi hj
    exact ⟨u, hu1, RdD.fx s.fx hu2⟩
  refine ⟨_, _, rel_new r hn1 h0 h4 h2 h3 (m := n * k) hb ⟨cells, hcl, .inr ⟨w.heap.size, cap, cs, upd_same, Nat.zero_le _, ?_, hc, hcm, hcs, htk⟩⟩ (fun b i ho => ?_) hu, ⟨hrd, by rw [over_same]; rfl, fun e1 k1 n1 he => ?_⟩, s⟩
  · rw [← h0]; exact heap_alloc_new w1 _
  · unfold Owns at ho
    rw [over_same] at ho
    exact ho.2
  · rw [over_same] at he
    injection he with he; injection he with _ _ he; subst he
    exact ⟨by omega, fun _ => upd_same.symm⟩
theorem own_room (r : Rel γ h M w) {key g : Nat} {e : TypeId} {k n m cap : Nat} (hkey : h key = some (.arr e k n)) (hg : γ key = .slice (some ⟨g, 0, none⟩) n cap) {xs ys : List (List D)} {cx cy : List Value} {cur : Array Value} (hk0 : 0 < k) (hw : w.heap[g]? = some (.cells cur e (0, 0)))
    (hn : xs.length = n) (hm : ys.length = m) (hm0 : 0 < m) (hc : n + m ≤ cap) (hcm : cap ≤ maxLen) (hl : n + m ≤ 1099511627776) (hkx : ∀ (i : Nat) (row : List D), xs[i]? = some row → row.length = k) (hky : ∀ (i : Nat) (row : List D), ys[i]? = some row → row.length = k)
    (hcx : cx.length = n * k) (hcy : cy.length = m * k) (h1x : ∀ c ∈ cx, c.oneCell' = true) (h1y : ∀ c ∈ cy, c.oneCell' = true)
    (hrx : ∀ (i : Nat) (row : List D) (j : Nat) (d : D), xs[i]? = some row → row[j]? = some d → ∃ u, cx[i * k + j]? = some u ∧ RdD M w d u)
    (hry : ∀ (i : Nat) (row : List D) (j : Nat) (d : D), ys[i]? = some row → row[j]? = some d → ∃ u, cy[i * k + j]? = some u ∧ RdD M w d u)
    (hcs : cur.size = cap * k) (htk : cur.toList.take (n * k) = cx) (hmx : ∀ q, q < n * k → ¬ M g q) {w' : World} (hw' : w' = w.setRow g (cur.toList.take (n * k) ++ cy ++ cur.toList.drop (n * k + cy.length)).toArray) :
    ∃ γ' M', Rel γ' (over [(key, .arr e k (n + m))] h) M' w' ∧ RdV γ' (over [(key, .arr e k (n + m))] h) M' w' (.a (.own key k (xs ++ ys))) (.slice (some ⟨g, 0, none⟩) (n + m) cap) ∧
      Stp γ h M w γ' (over [(key, .arr e k (n + m))] h) M' w' := by
  have hnm : (n + m) * k ≤ cap * k := Nat.mul_le_mul_right k hc
  have hadd : (n + m) * k = n * k + m * k := Nat.add_mul n m k
  obtain ⟨C, hC⟩ : ∃ C : List Value, C = cur.toList.take (n * k) ++ cy ++ cur.toList.drop (n * k + cy.length) := ⟨_, rfl⟩
  rw [← hC] at hw'
  have hclen : C.length = cur.size := by
    rw [hC]; simp; omega
  have hhead : w'.heap[g]? = some (.cells C.toArray e (0, 0)) := by rw [hw']; exact setRow_heap w g cur _ e _ hw
  have hother : ∀ b, b ≠ g → w'.heap[b]? = w.heap[b]? := fun b hb => by rw [hw']; exact setRow_other w g b _ hb
  have hlow : ∀ i, i < n * k → C[i]? = cur[i]? := by
    intro i hi
    rw [hC, List.append_assoc, List.getElem?_append_left (by simp; omega), List.getElem?_take, if_pos hi]; simp
  have hhigh : ∀ i, (n + m) * k ≤ i → C[i]? = cur[i]? := by
    intro i hi
    rw [hC, List.getElem?_append_right (by simp; omega), List.getElem?_drop]
    simp only [List.length_append, List.length_take, Array.length_toList]
    rw [show n * k + cy.length + (i - (min (n * k) cur.size + cy.length)) = i from by omega]; simp
  have htake : C.take ((n + m) * k) = cx ++ cy := by
    rw [hC, htk, show (n + m) * k = (cx ++ cy).length from by simp; omega]
    exact List.take_left
  have hM : ∀ i, n * k ≤ i → M g i := fun i hi => r.own key g i (by unfold Owns; rw [hkey]; simp [hg, blk]; exact hi)
  have hfx : ∀ b i v, Fx M w b i v → Fx (fun b i => M b i ∧ ¬ (b = g ∧ i < (n + m) * k)) w' b i v := by
    intro b i v hv
    refine ⟨fun hq => hv.1 hq.1, ?_⟩
    by_cases e1 : b = g
    · subst e1
      have hi : i < n * k := by
        rcases Nat.lt_or_ge i (n * k) with h5 | h5
        · exact h5
        · exact absurd (hM i h5) hv.1
      have h5 := hv.2
      simp only [World.cell?, hw] at h5
      simp only [World.cell?, hhead]
      simpa [hlow i hi] using h5
    · rw [← hv.2]; exact World.cell?_of_block (a := ⟨b, i, none⟩) (hother b e1)
  have hgo : ∀ key' b i, Owns (upd γ key (.slice (some ⟨g, 0, none⟩) (n + m) cap)) (over [(key, .arr e k (n + m))] h) key' b i → Owns γ h key' b i ∧ ¬ (b = g ∧ i < (n + m) * k) := by
    intro key' b i ho
    by_cases e1 : key' = key
    · subst e1
      unfold Owns at ho
      rw [over_same, upd_same] at ho
      obtain ⟨h5, h6⟩ := ho
      simp [blk] at h5
      refine ⟨?_, by omega⟩
      unfold Owns; rw [hkey]
      exact ⟨by rw [hg, ← h5]; rfl, by omega⟩
    · have h5 := (owns_congr (upd_other e1) (over_other e1)).1 ho
      refine ⟨h5, fun h6 => e1 ?_⟩
      obtain ⟨h7, h8⟩ := owns_live h5
      exact r.inj key' key b h7 (by rw [hkey]; rfl) h8 (by rw [hg, h6.1]; rfl)
  have s : Stp γ h M w (upd γ key (.slice (some ⟨g, 0, none⟩) (n + m) cap)) (over [(key, .arr e k (n + m))] h) (fun b i => M b i ∧ ¬ (b = g ∧ i < (n + m) * k)) w' := by
    refine ⟨by rw [hw']; rfl, by rw [hw']; rfl, by rw [hw']; rfl, by rw [hw']; simp, hfx, fun b hb hno => hother b fun e1 => ?_, fun b i hm hno => ⟨hm, fun hq => ?_⟩, fun key' b i ho hb => ⟨key', (hgo key' b i ho).1⟩, fun key' e1 he => ?_⟩
    · refine hno key (n * k) ?_
      unfold Owns; rw [hkey]; subst e1; simp [hg, blk]
    · obtain ⟨rfl, hq⟩ := hq
      rcases Nat.lt_or_ge i (n * k) with h5 | h5
      · exact absurd hm (hmx i h5)
      · exact hno key (by unfold Owns; rw [hkey]; simp [hg, blk]; exact h5)
    · by_cases e2 : key' = key
      · subst e2
        rw [hkey] at he; injection he with he; subst he
        exact ⟨_, over_same, Nat.le_add_right _ _, .inr (Nat.lt_add_of_pos_right hm0)⟩
      · exact ⟨e1, by rw [over_other e2]; exact he, Goes.refl _, .inl (upd_other e2)⟩
  have hnew : ∀ (q : Nat) (u : Value), (cx ++ cy)[q]? = some u → Fx (fun b i => M b i ∧ ¬ (b = g ∧ i < (n + m) * k)) w' g q u := by
    intro q u hq
    have hlt := (List.getElem?_eq_some_iff.1 hq).1
    simp only [List.length_append] at hlt
    refine ⟨fun h5 => h5.2 ⟨rfl, by omega⟩, ?_⟩
    rw [← htake, List.getElem?_take, if_pos (by omega)] at hq
    simp [World.cell?, hhead, hq]
  have hlen : (xs ++ ys).length = n + m := by simp [hn, hm]
  have hrd : RdD (fun b i => M b i ∧ ¬ (b = g ∧ i < (n + m) * k)) w' (.sl k (xs ++ ys)) (.slice (some ⟨g, 0, none⟩) (n + m) cap) := by
    suffices h9 : RdD (fun b i => M b i ∧ ¬ (b = g ∧ i < (n + m) * k)) w' (.sl k (xs ++ ys)) (.slice (some ⟨g, 0, none⟩) (xs ++ ys).length cap) by rw [hlen] at h9; exact h9
    refine sl_of (cells := cx ++ cy) (by omega) (by omega) (rows_len hkx hky) (by simp [hcx, hcy, hn, hm, Nat.add_mul]) (fun c hcc => ?_) (fun _ => ⟨g, 0, rfl, fun q u hq => by rw [Nat.zero_add]; exact hnew q u hq⟩) fun i row j d hi hj => ?_
    · rcases List.mem_append.1 hcc with h5 | h5
      · exact h1x c h5
      · exact h1y c h5
    · obtain ⟨u, hu1, hu2⟩ := rows_app (by rw [hcx, hn]) hkx hrx hry i row j d hi hj
      exact ⟨u, hu1, RdD.fx hfx hu2⟩
  refine ⟨_, _, ⟨fun key' e1 he => ?_, fun key' b i ho => ?_, fun key1 key2 b l1 l2 b1 b2 => ?_, fun b i z hmm => ?_, fun b i hmm => by rw [hw']; simpa using r.dom b i hmm.1, r.glb.fx s.fx⟩, ⟨hrd, by rw [over_same]; rfl, fun e1 k1 n1 he => ?_⟩, s⟩
  · by_cases e2 : key' = key
    · subst e2
      rw [over_same] at he; injection he with he; subst he
      refine ⟨cx ++ cy, by simp [hcx, hcy, Nat.add_mul], .inr ⟨g, cap, C.toArray, upd_same, Nat.zero_le _, hhead, hc, hcm, by simpa [hclen] using hcs, by simpa using htake⟩⟩
    · rw [over_other e2] at he
      refine EntR.stp s (r.ent key' e1 he) (upd_other e2) fun hl b hb => hother b fun e3 => e2 ?_
      exact r.inj key' key b (by rw [he]; exact hl) (by rw [hkey]; rfl) hb (by rw [hg, e3]; rfl)
  · obtain ⟨h5, h6⟩ := hgo key' b i ho
    exact ⟨r.own key' b i h5, h6⟩
  · have hl : ∀ k0, live (over [(key, .arr e k (n + m))] h k0) = true → live (h k0) = true := by
      intro k0 hl
      by_cases e1 : k0 = key
      · subst e1; rw [hkey]; rfl
      · rwa [over_other e1] at hl
    have hbk : ∀ k0, blk (upd γ key (.slice (some ⟨g, 0, none⟩) (n + m) cap) k0) = some b → blk (γ k0) = some b := by
      intro k0 hb
      by_cases e1 : k0 = key
      · subst e1; rw [upd_same] at hb; rw [hg]; exact hb
      · rwa [upd_other e1] at hb
    exact r.inj key1 key2 b (hl _ l1) (hl _ l2) (hbk _ b1) (hbk _ b2)
  · by_cases e1 : b = g
    · subst e1
      have h5 : (n + m) * k ≤ i := by
        rcases Nat.lt_or_ge i ((n + m) * k) with h6 | h6
        · exact absurd ⟨rfl, h6⟩ hmm.2
        · exact h6
      have h6 := r.u32 b i z hmm.1
      simp only [World.cell?, hw] at h6
      simp only [World.cell?, hhead]
      simpa [hhigh i h5] using h6
    · rw [World.cell?_of_block (w := w) (a := ⟨b, i, none⟩) (hother b e1)]
      exact r.u32 b i z hmm.1
  · rw [over_same] at he
    injection he with he; injection he with _ _ he; subst he
    exact ⟨by omega, fun _ => upd_same.symm⟩
def appOk (P : Program) (e : TypeId) (k : Nat) : Bool :=
  match P.info? e, zeroT P zb e with
  | some i, some zs => decide (0 < k) && decide (i.size = k) && decide (i.bytes ≤ 2048) && decide (zs.length = k) && zs.all plainA
  | _, _ => false
theorem appOk_ok {e : TypeId} {k : Nat} (ho : appOk P e k = true) : ∃ i z, P.info? e = some i ∧ i.zero = some z ∧ 0 < k ∧ i.size = k ∧ i.bytes ≤ 2048 ∧ z.cells.size = k ∧ ∀ x, x ∈ z.cells.toList → ∀ q : Int, x ≠ .int .u32 q := by
  unfold appOk at ho
  split at ho
  · rename_i i zs h1 h2
    obtain ⟨i', z, e1, e2, k1⟩ := zeroT_ok (γ := fun _ => undef) (h := fun _ => none) (M := fun _ _ => False) (w := default) zb_ok h2
    rw [h1] at e1; injection e1 with e1; subst e1
    simp only [Bool.and_eq_true, decide_eq_true_eq] at ho
    obtain ⟨⟨⟨⟨o1, o2⟩, o3⟩, o4⟩, o5⟩ := ho
    refine ⟨i, z, h1, e2, o1, o2, o3, by rw [← o4, k1.len]; simp, fun x hx => ?_⟩
    obtain ⟨j, hj⟩ := List.mem_iff_getElem?.1 hx
    exact plain_all k1 o5 j x (by simpa using hj)
  · cases ho
theorem zeroCells_u32 {z : Array Value} {n : Nat} (hz : 0 < z.size) (hu : ∀ x, x ∈ z.toList → ∀ q : Int, x ≠ .int .u32 q) : ∀ (i : Nat) (x : Value), (Builtin.zeroCells z n)[i]? = some x → ∀ q : Int, x ≠ .int .u32 q := by
  intro i x hi
  simp only [Builtin.zeroCells] at hi
  have hlt := (Array.getElem?_eq_some_iff.1 hi).1
  simp only [Array.size_map, Array.size_range] at hlt
  have hx : x = z[i % z.size]! := by
    simp [Array.getElem?_map, hlt] at hi
    exact hi.symm
  refine hu x ?_
  rw [hx]
  have hm : i % z.size < z.size := Nat.mod_lt _ hz
  rw [getElem!_pos z _ hm]
  exact Array.mem_toList_iff.2 (Array.getElem_mem hm)
theorem run_append_zero {t ty e : TypeId} {i : TypeInfo} (ht : P.underlying t = some (.slice e)) (hi : P.info? e = some i) {v : Value} {n : Nat} {xs : List Value} (hown : w.ownsRow 0 e i.size v n xs) (ad : Option Addr) (c : Nat) :
    (Builtin.append_ #[t, t] ty #[v, .slice ad 0 c]).run P w = .ok v w := by
  rcases hown.2 with ⟨rfl, rfl⟩ | ⟨g, cap, cur, rfl, _, _, hnc, _⟩
  · cases ad <;> simp [Builtin.append_, run_underlying ht, sizeOf, typeInfo, hi, Builtin.lenOf, Builtin.firstCells, loadCells, loadCellsFrom]
  · cases ad <;> simp [Builtin.append_, run_underlying ht, sizeOf, typeInfo, hi, Builtin.lenOf, Builtin.firstCells, hnc, storeCells, loadCells, loadCellsFrom]
def yOf (k : Nat) : V → Option (List (List D))
  | .a (.d (.lit (.slice _ 0 _))) => some []
  | v => match slOf v with
    | some (k', ys) => if k' = k then some ys else none
    | none => none
theorem yOf_ok {k : Nat} {v : V} {r : Value} (hv : RdV γ h M w v r) {ys : List (List D)} (hy : yOf k v = some ys) : RdD M w (.sl k ys) r := by
  unfold yOf at hy
  split at hy
  · injection hy with hy; subst hy
    have := lit_inv hv; subst this
    exact .sl k [] _ _ (fun _ _ => .bool false) (Nat.zero_le _) (Nat.zero_le _) (fun h0 => absurd h0 (by simp)) (fun i row hi => by simp at hi) (fun _ _ => rfl) (fun i row j d hi => by simp at hi)
  · split at hy
    · rename_i k' ys' h1
      split at hy
      · rename_i hk; subst hk; injection hy with hy; subst hy; exact slOf_ok hv h1
      · cases hy
    · cases hy
def appL (P : Program) (t : TypeId) (h : Hp) (n : Nat) : V → V → Option (V × List (Nat × Ent) × List Nat)
  | .a (.own key k xs), vy => match elemT P t, h key, yOf k vy with
    | some (e, k'), some (.arr e' k'' n0), some ys =>
      if k' = k ∧ k'' = k ∧ e' = e ∧ n0 = xs.length ∧ appOk P e k = true ∧ xs.length + ys.length ≤ 68719476736 then some (.a (.own key k (xs ++ ys)), [(key, .arr e k (xs.length + ys.length))], [key]) else none
    | _, _, _ => none
  | .a (.d (.lit (.slice none 0 0))), vy => match elemT P t, (h n).isNone with
    | some (e, k), true => match yOf k vy with
      | some ys => if appOk P e k = true ∧ ys.length ≤ 68719476736 then some (.a (.own n k ys), [(n, .arr e k ys.length)], [n]) else none
      | none => none
    | _, _ => none
  | _, _ => none
theorem rows0 {k : Nat} : ∀ (i : Nat) (row : List D) (j : Nat) (d : D), ([] : List (List D))[i]? = some row → row[j]? = some d → ∃ u, ([] : List Value)[i * k + j]? = some u ∧ RdD M w d u := by
  intro i row j d hi; simp at hi
theorem new_nil (r : Rel γ h M w) {key : Nat} (hn : h key = none) (e : TypeId) (k : Nat) :
    Rel (upd γ key (.slice none 0 0)) (over [(key, .arr e k 0)] h) M w ∧ Stp γ h M w (upd γ key (.slice none 0 0)) (over [(key, .arr e k 0)] h) M w := by
  have hno : ∀ b i, ¬ Owns (upd γ key (.slice none 0 0)) (over [(key, .arr e k 0)] h) key b i := by
    intro b i ho
    have := (owns_live ho).2
    rw [upd_same] at this; cases this
  have s : Stp γ h M w (upd γ key (.slice none 0 0)) (over [(key, .arr e k 0)] h) M w := by
    refine ⟨rfl, rfl, rfl, Nat.le_refl _, fun _ _ _ k => k, fun _ _ _ => rfl, fun _ _ k _ => k, fun key' b i ho _ => ?_, fun key' e' he => ?_⟩
    · by_cases e1 : key' = key
      · subst e1; exact absurd ho (hno b i)
      · exact ⟨key', (owns_congr (upd_other e1) (over_other e1)).1 ho⟩
    · have e1 : key' ≠ key := by intro e1; subst e1; rw [hn] at he; cases he
      exact ⟨e', by rw [over_other e1]; exact he, Goes.refl _, .inl (upd_other e1)⟩
  refine ⟨⟨fun key' e' he => ?_, fun key' b i ho => ?_, fun key1 key2 b l1 l2 b1 b2 => ?_, r.u32, r.dom, r.glb⟩, s⟩
  · by_cases e1 : key' = key
    · subst e1
      rw [over_same] at he; injection he with he; subst he
      exact ⟨[], by rw [upd_same]; exact World.ownsRow_nil w 0 e k⟩
    · rw [over_other e1] at he
      exact EntR.stp s (r.ent key' e' he) (upd_other e1) fun _ _ _ => rfl
  · by_cases e1 : key' = key
    · subst e1; exact absurd ho (hno b i)
    · exact r.own key' b i ((owns_congr (upd_other e1) (over_other e1)).1 ho)
  · have e1 : key1 ≠ key := by intro e1; subst e1; rw [upd_same] at b1; cases b1
    have e2 : key2 ≠ key := by intro e1; subst e1; rw [upd_same] at b2; cases b2
    rw [over_other e1] at l1
    rw [over_other e2] at l2
    rw [upd_other e1] at b1
    rw [upd_other e2] at b2
    exact r.inj key1 key2 b l1 l2 b1 b2
theorem over_id {key : Nat} {e : Ent} (hk : h key = some e) : over [(key, e)] h = h := by
  funext k
  by_cases e1 : k = key
  · subst e1; rw [over_same, hk]
  · exact over_other e1
theorem app_run {t ty e : TypeId} {k n m : Nat} {key : Nat} {xs ys : List (List D)} {vx vy : Value} {olds : Option Ent} (r : Rel γ h M w) (hkey : h key = olds) (ht : P.underlying t = some (.slice e)) (hok : appOk P e k = true)
    (hold : (olds = some (.arr e k n) ∧ γ key = vx) ∨ (olds = none ∧ n = 0 ∧ vx = .slice none 0 0)) (hx : RdD M w (.sl k xs) vx) (hn : xs.length = n) (hy : RdD M w (.sl k ys) vy) (hm : ys.length = m) (hb : n + m ≤ 68719476736) :
    ∃ v' w' γ' M', (Builtin.append_ #[t, t] ty #[vx, vy]).run P w = .ok v' w' ∧ Rel γ' (over [(key, .arr e k (n + m))] h) M' w' ∧ RdV γ' (over [(key, .arr e k (n + m))] h) M' w' (.a (.own key k (xs ++ ys))) v' ∧
      Stp γ h M w γ' (over [(key, .arr e k (n + m))] h) M' w' := by
  obtain ⟨i, z, hi, hz, hk0, hs, hby, hzs, hzu⟩ := appOk_ok hok
  subst hs
  obtain ⟨ay, my, cy', rfl⟩ : ∃ a n c, vy = .slice a n c := by
    rcases rdD_slice hy with ⟨_, e⟩ | h5
    · cases e
    · exact h5
  obtain ⟨l1, l2, l3, hky, cy, hcy, h1y, hfy, hry⟩ := sl_cells hy hk0
  rw [hm] at l1; subst l1
  have hown : ∃ cx, w.ownsRow 0 e i.size vx n cx := by
    rcases hold with ⟨h5, h6⟩ | ⟨h5, h6, h7⟩
    · obtain ⟨cx, hc⟩ := r.ent key _ (hkey.trans h5)
      rw [h6] at hc
      exact ⟨cx, hc⟩
    · exact ⟨[], by rw [h6, h7]; exact World.ownsRow_nil w 0 e i.size⟩
  obtain ⟨cx, hown⟩ := hown
  by_cases hm0 : m = 0
  · subst hm0
    have hys : ys = [] := List.eq_nil_of_length_eq_zero hm
    subst hys
    have hr := run_append_zero (P := P) (ty := ty) ht hi hown ay cy'
    rw [Nat.add_zero, List.append_nil]
    rcases hold with ⟨h5, h6⟩ | ⟨h5, h6, h7⟩
    · have hh := hkey.trans h5
      rw [over_id hh]
      refine ⟨vx, w, γ, M, hr, r, ⟨hx, by rw [hh]; rfl, fun e1 k1 n1 he => ?_⟩, Stp.refl _ _ _ _⟩
      rw [hh] at he; injection he with he; injection he with _ _ he; subst he
      exact ⟨by omega, fun _ => h6.symm⟩
    · obtain ⟨q1, q2⟩ := new_nil r (hkey.trans h5) e i.size
      subst h6 h7
      refine ⟨_, w, _, M, hr, q1, ⟨hx, by rw [over_same]; rfl, fun e1 k1 n1 he => ?_⟩, q2⟩
      rw [over_same] at he; injection he with he; injection he with _ _ he; subst he
      exact ⟨by omega, fun _ => upd_same.symm⟩
  · obtain ⟨b, o, rfl, hfz⟩ := hfy (by omega)
    have hnews : ∀ j v, cy[j]? = some v → w.cell? ((⟨b, o, none⟩ : Addr).add j) = some v := fun j v hj => by rw [Addr.add_lit]; exact (hfz j v hj).2
    have hmax : n + m ≤ maxLen := by simp [maxLen]; omega
    rcases hown.2 with ⟨rfl, h0⟩ | ⟨g, cap, cur, rfl, _, hg, hnc, hcm, hcs, htk⟩
    · subst h0
      have hxs : xs = [] := List.eq_nil_of_length_eq_zero hn
      subst hxs
      have hr := run_append_nil (P := P) w t ty e i z ht hi hz ⟨b, o, none⟩ m cy' cy hcy hnews (by omega) (by omega) (by
        have := Nat.mul_le_mul (show m ≤ 68719476736 by omega) hby; omega)
      have hge := grownCap_ge w m 0 e
      obtain ⟨γ', M', q1, q2, q3⟩ := own_moved (w1 := w.drew) r (key := key) (e := e) (k := i.size) (n := 0 + m) (xs := [] ++ ys) (cells := cy) (cap := grownCap w m 0 e) (cs := cy.toArray ++ Builtin.zeroCells z.cells (grownCap w m 0 e - m)) hkey
        (by rcases hold with ⟨h5, _⟩ | ⟨h5, _⟩
            · exact .inr ⟨0, h5, by omega⟩
            · exact .inl h5) hk0 (by simpa using hm) (by omega) (grownCap_le_maxLen w m 0 e (by omega)) (by omega) hky (by simpa using hcy) h1y hry
        (by simp [size_zeroCells, hcy, hzs, ← Nat.add_mul]; congr 1; omega) (by simp [← hcy]) (fun j x hj hx => by
          rw [Nat.zero_add] at hj
          rw [Array.getElem?_append_right (by simp [hcy]; omega)] at hx
          exact zeroCells_u32 (by omega) hzu _ x hx) rfl rfl rfl rfl
      rw [Nat.zero_add] at q1 q2 q3
      rw [Nat.zero_add]
      exact ⟨_, _, γ', M', hr, q1, q2, q3⟩
    · obtain ⟨lx1, lx2, lx3, hkx, cx', hcx, h1x, hfx, hrx⟩ := sl_cells hx hk0
      have hkk : olds = some (.arr e i.size n) ∧ γ key = .slice (some ⟨g, 0, none⟩) n cap := by
        rcases hold with h5 | ⟨_, _, h5⟩
        · exact h5
        · cases h5
      have hcc : cx' = cx := by
        refine List.ext_getElem? fun q => ?_
        by_cases hq : q < n * i.size
        · have h6 : cx'[q]? = some (cx'[q]'(by omega)) := List.getElem?_eq_getElem _
          have hn0 : 0 < n := by
            rcases Nat.eq_zero_or_pos n with h0 | h0
            · subst h0; omega
            · exact h0
          obtain ⟨b2, o2, e2, hf2⟩ := hfx hn0
          injection e2 with e2; injection e2 with e2 e3 _; subst e2 e3
          have h7 := (hf2 q _ h6).2
          rw [Nat.zero_add] at h7
          simp only [World.cell?, hg] at h7
          rw [h6, ← htk, List.getElem?_take, if_pos hq]
          simpa using h7.symm
        · rw [List.getElem?_eq_none (by omega), List.getElem?_eq_none (by rw [hown.1]; omega)]
      subst hcc
      by_cases hroom : n + m ≤ cap
      · have hfit : n * i.size + cy.length ≤ cur.size := by rw [hcy, hcs, ← Nat.add_mul]; exact Nat.mul_le_mul_right _ hroom
        have hr := run_append_room (P := P) w t ty e i ht hi g n cap cur hg ⟨b, o, none⟩ m cy' cy hcy hnews h1y hroom hfit
        obtain ⟨γ', M', q1, q2, q3⟩ := own_room r (hkey.trans hkk.1) hkk.2 (cx := cx') hk0 hg hn hm (by omega) hroom hcm (by omega) hkx hky hcx hcy h1x h1y hrx hry hcs htk (fun q hq => by
          have hn0 : 0 < n := by
            rcases Nat.eq_zero_or_pos n with h0 | h0
            · subst h0; omega
            · exact h0
          obtain ⟨b2, o2, e2, hf2⟩ := hfx hn0
          injection e2 with e2; injection e2 with e2 e3 _; subst e2 e3
          have h7 := (hf2 q _ (List.getElem?_eq_getElem (by omega))).1
          rwa [Nat.zero_add] at h7) rfl
        exact ⟨_, _, γ', M', hr, q1, q2, q3⟩
      · have holds : ∀ j v, cx'[j]? = some v → w.cell? ((⟨g, 0, none⟩ : Addr).add j) = some v := hown.cells (g := g) rfl
        have hr := run_append_grow (P := P) w t ty e i z ht hi hz ⟨g, 0, none⟩ n cap cx' hown.1 holds ⟨b, o, none⟩ m cy' cy hcy hnews (by omega) (by omega) (growslice_fits (by omega) (by
          have := Nat.mul_le_mul hb hby; omega))
        have hge := grownCap_ge w (n + m) cap e
        obtain ⟨γ', M', q1, q2, q3⟩ := own_moved (w1 := w.drew) r (key := key) (e := e) (k := i.size) (n := n + m) (xs := xs ++ ys) (cells := cx' ++ cy) (cap := grownCap w (n + m) cap e) (cs := cx'.toArray ++ cy.toArray ++ Builtin.zeroCells z.cells (grownCap w (n + m) cap e - (n + m))) hkey
          (.inr ⟨n, hkk.1, by omega⟩) hk0 (by simp [hn, hm]) hge (grownCap_le_maxLen w (n + m) cap e hmax) (by omega) (rows_len hkx hky) (by simp [hcx, hcy, Nat.add_mul]) (fun c hc => by
            rcases List.mem_append.1 hc with h5 | h5
            · exact h1x c h5
            · exact h1y c h5) (rows_app (by rw [hcx, hn]) hkx hrx hry)
          (by simp [size_zeroCells, hcx, hcy, hzs, ← Nat.add_mul]; congr 1; omega) (by
            have h5 : (n + m) * i.size = (cx' ++ cy).length := by simp [hcx, hcy, Nat.add_mul]
            rw [h5]; simp only [Array.toList_append, List.toList_toArray]; exact List.take_left) (fun j x hj hx => by
            rw [Array.getElem?_append_right (by simp [hcx, hcy]; rw [Nat.add_mul] at hj; omega)] at hx
            exact zeroCells_u32 (by omega) hzu _ x hx) rfl rfl rfl rfl
        exact ⟨_, _, γ', M', hr, q1, q2, q3⟩
theorem OT_append {o : Oper} {t t' : TypeId} {s x : Operand} {vs vx v : V} {n : Nat} {sets : List (Nat × Ent)} {rk : List Nat} (ho : o.op = .call { callee := .builtin .append, args := #[s, x], argTypes := #[t, t'] })
    (ht' : (elemT P t').isSome = true) (hs : evL T s = some vs) (hx : evL T x = some vx) (ha : appL P t h n vs vx = some (v, sets, rk)) : OT P o T h v sets rk := by
  intro T' h' γ M w a next Q hT hk hr ht hn
  have hs' : evL T' s = some vs := by
    rw [← hs]; exact evL_congr fun d hd => hT d (by rw [ho]; simp [Op.operands, Call.operands, hd])
  have hx' : evL T' x = some vx := by
    rw [← hx]; exact evL_congr fun d hd => hT d (by rw [ho]; simp [Op.operands, Call.operands, hd])
  have h1 := evL_ok ht hs'
  have h2 := evL_ok ht hx'
  obtain ⟨⟨e2, s2⟩, he2⟩ := Option.isSome_iff_exists.1 ht'
  suffices key : ∃ r w' γ' M', (Builtin.append_ #[t, t] o.type #[a.eval s, a.eval x]).run P w = .ok r w' ∧ (∃ e, P.underlying t = some (.slice e)) ∧ Rel γ' (over sets h') M' w' ∧ RdV γ' (over sets h') M' w' v r ∧ Stp γ h' M w γ' (over sets h') M' w' by
    obtain ⟨r, w', γ', M', k1, ⟨e, k2⟩, k3, k4, k5⟩ := key
    unfold Oper.wp
    have : (execOp a.eval o).run P w = .ok (.value r) w' := by
      simp [execOp, ho, resolve, invoke, builtin, append_types w t t' e e2 o.type _ k2 (elemT_ok he2).1, k1]
    rw [this]
    exact hn r γ' M' w' k3 k4 k5
  unfold appL at ha
  split at ha
  · rename_i key k xs
    split at ha
    · rename_i e k' e' k'' n0 ys a1 a2 a3
      split at ha
      · rename_i hc
        obtain ⟨rfl, rfl, rfl, rfl, c5, c6⟩ := hc
        injection ha with ha; injection ha with b1 b2; injection b2 with b2 b3; subst b1 b2 b3
        have hkey := (hk key (by simp)).trans a2
        obtain ⟨q1, q2, q3⟩ := h1
        have q4 := (q3 _ _ _ hkey).2 rfl
        obtain ⟨r, w', γ', M', k1, k2, k3, k4⟩ := app_run (ty := o.type) hr hkey (elemT_ok a1).1 c5 (.inl ⟨rfl, q4.symm⟩) q1 rfl (yOf_ok h2 a3) rfl c6
        exact ⟨r, w', γ', M', k1, ⟨_, (elemT_ok a1).1⟩, k2, k3, k4⟩
      · cases ha
    · cases ha
  · split at ha
    · rename_i e k a1 a2
      split at ha
      · rename_i ys a3
        split at ha
        · rename_i hc
          obtain ⟨c5, c6⟩ := hc
          injection ha with ha; injection ha with b1 b2; injection b2 with b2 b3; subst b1 b2 b3
          have hkey : h' n = none := (hk n (by simp)).trans (by simpa using a2)
          have q4 := lit_inv h1
          rw [q4]
          obtain ⟨r, w', γ', M', k1, k2, k3, k4⟩ := app_run (ty := o.type) (n := 0) (xs := []) hr hkey (elemT_ok a1).1 c5 (.inr ⟨rfl, rfl, rfl⟩) (nil_ok _) rfl (yOf_ok h2 a3) rfl (by omega)
          rw [Nat.zero_add] at k2 k3 k4
          exact ⟨r, w', γ', M', k1, ⟨_, (elemT_ok a1).1⟩, k2, k3, k4⟩
        · cases ha
      · cases ha
    · cases ha
  · cases ha
def toD : A → Option D
  | .d x => some x
  | .own _ k xs => some (.sl k xs)
  | _ => none
def toDs : List A → Option (List D)
  | [] => some []
  | x :: r => match toD x, toDs r with
    | some d, some ds => some (d :: ds)
    | _, _ => none
theorem toDs_ok : ∀ {xs : List A} {vs : List Value} {ds : List D}, All2 (RdA γ h M w) xs vs → toDs xs = some ds → All2 (RdD M w) ds vs
  | [], [], ds, _, hd => by simp [toDs] at hd; subst hd; trivial
  | x :: xs, v :: vs, ds, k, hd => by
    simp only [toDs] at hd
    split at hd
    · rename_i d ds' h1 h2
      injection hd with hd; subst hd
      refine ⟨?_, toDs_ok k.2 h2⟩
      cases x <;> simp [toD] at h1 <;> subst h1
      · exact k.1
      · exact k.1.1
    · cases hd
  | [], _ :: _, _, k, _ => k.elim
  | _ :: _, [], _, k, _ => k.elim
def chunk (k : Nat) : Nat → List D → List (List D)
  | 0, _ => []
  | n + 1, ds => ds.take k :: chunk k n (ds.drop k)
theorem chunk_len (k : Nat) : ∀ (n : Nat) (ds : List D), (chunk k n ds).length = n
  | 0, _ => rfl
  | n + 1, ds => by simp [chunk, chunk_len k n]
theorem chunk_get (k : Nat) : ∀ (n : Nat) (ds : List D) (i : Nat), i < n → (chunk k n ds)[i]? = some ((ds.drop (i * k)).take k)
  | n + 1, ds, 0, _ => by simp [chunk]
  | n + 1, ds, i + 1, hi => by
    simp only [chunk, List.getElem?_cons_succ]
    rw [chunk_get k n _ i (by omega), List.drop_drop]
    congr 3
    rw [Nat.add_mul]; omega
def bsL (P : Program) (ev : Operand → Option V) (h : Hp) (n : Nat) (t : TypeId) (len : Nat) (parts : List (Nat × Operand)) : Option (V × List (Nat × Ent) × List Nat) :=
  match elemT P t with
  | some (e, k) => match zeroT P zb e with
    | some zs => if appOk P e k = true ∧ (h n).isNone = true ∧ len * k ≤ 16777216 then
        match fillL (fun i => some (i * k, k)) ev parts (List.replicate len zs).flatten with
        | some us => match toDs us with
          | some ds => if us.all oneA = true then some (.a (.own n k (chunk k len ds)), [(n, .arr e k len)], [n]) else none
          | none => none
        | none => none
      else none
    | none => none
  | none => none
theorem flat_get {α : Type} (zs : List α) {k : Nat} (hk : zs.length = k) : ∀ (len j : Nat), j < len * k → ((List.replicate len zs).flatten)[j]? = zs[j % k]?
  | 0, j, hj => by simp at hj
  | n + 1, j, hj => by
    rw [List.replicate_succ, List.flatten_cons]
    rcases Nat.lt_or_ge j k with h1 | h1
    · rw [List.getElem?_append_left (by omega), Nat.mod_eq_of_lt h1]
    · rw [List.getElem?_append_right (by omega), hk, flat_get zs hk n (j - k) (by rw [Nat.add_mul] at hj; omega), ← Nat.mod_eq_sub_mod h1]
theorem flat_len {α : Type} (zs : List α) {k : Nat} (hk : zs.length = k) (len : Nat) : ((List.replicate len zs).flatten).length = len * k := by
  simp [List.length_flatten, hk]
theorem OT_bs {o : Oper} {t : TypeId} {len : Nat} {parts : Array (Nat × Operand)} {v : V} {n : Nat} {sets : List (Nat × Ent)} {rk : List Nat} (ho : o.op = .buildSlice t len parts) (hb : bsL P (evL T) h n t len parts.toList = some (v, sets, rk)) : OT P o T h v sets rk := by
  unfold bsL at hb
  split at hb
  · rename_i e k he
    split at hb
    · rename_i zs hz
      split at hb
      · rename_i hc
        obtain ⟨c1, c2, c3⟩ := hc
        split at hb
        · rename_i us hf
          split at hb
          · rename_i ds hd
            split at hb
            · rename_i hone
              injection hb with hb; injection hb with b1 b2; injection b2 with b2 b3; subst b1 b2 b3
              intro T' h' γ M w a next Q hT hk hr ht hn
              obtain ⟨e1, e2⟩ := elemT_ok he
              obtain ⟨i, z, hi, hzz, hk0, hs, hby, hzs, hzu⟩ := appOk_ok c1
              have hz0 : All2 (RdA γ h' M w) zs z.cells.toList := by
                obtain ⟨i', z', q1, q2, q3⟩ := zeroT_ok (γ := γ) (h := h') (M := M) (w := w) zb_ok hz
                rw [hi] at q1; injection q1 with q1; subst q1
                rw [hzz] at q2; injection q2 with q2; subst q2
                exact q3
              have hzl : zs.length = k := by rw [hz0.len]; simpa using hzs
              have hf' : fillL (fun i => some (i * k, k)) (evL T') parts.toList (List.replicate len zs).flatten = some us := by
                rw [← hf]
                refine fillL_congr fun p hp => evL_congr fun d hdd => hT d ?_
                rw [ho]; simp only [Op.operands]
                exact Array.mem_toList_iff.1 (by simpa using ⟨p.1, by rw [← hdd]; simpa using hp⟩)
              obtain ⟨C, hC⟩ : ∃ C : List Value, C = (List.range (len * k)).map fun j => z.cells[j % k]! := ⟨_, rfl⟩
              have hinit : All2 (RdA γ h' M w) (List.replicate len zs).flatten C := by
                refine All2.of_get (by rw [flat_len zs hzl, hC]; simp) fun j x y hx hy => ?_
                have hj : j < len * k := by rw [← flat_len zs hzl len]; exact (List.getElem?_eq_some_iff.1 hx).1
                rw [flat_get zs hzl len j hj] at hx
                obtain ⟨y', hy', hr'⟩ := All2.get hz0 hx
                have hm : j % k < z.cells.size := by rw [hzs]; exact Nat.mod_lt _ hk0
                have : y = y' := by
                  rw [hC, List.getElem?_map, List.getElem?_range hj] at hy
                  simp at hy
                  rw [getElem!_pos z.cells _ hm] at hy
                  simp [hm] at hy'
                  rw [← hy, hy']
                rw [this]; exact hr'
              obtain ⟨vs, k1, k2⟩ := fill_ok ht hf' hinit
              have k3 := toDs_ok k2 hd
              have hul : us.length = len * k := by
                have : ∀ (ps : List (Nat × Operand)) (cs us : List A), fillL (fun i => some (i * k, k)) (evL T') ps cs = some us → us.length = cs.length := by
                  intro ps
                  induction ps with
                  | nil => intro cs us hq; simp [fillL] at hq; rw [hq]
                  | cons p ps ih =>
                    intro cs us hq
                    obtain ⟨i, x⟩ := p
                    simp only [fillL] at hq
                    split at hq
                    · split at hq
                      · rename_i q1 q2 q3
                        rw [ih _ _ hq]; simp; omega
                      · cases hq
                    · cases hq
                rw [this _ _ _ hf', flat_len zs hzl]
              have hvl : vs.length = len * k := by rw [← k2.len, hul]
              have h1 : ∀ c ∈ vs, c.oneCell' = true := by
                intro c hcc
                obtain ⟨j, hj⟩ := List.mem_iff_getElem?.1 hcc
                have hlt := (List.getElem?_eq_some_iff.1 hj).1
                obtain ⟨q, q1, q2⟩ := All2.get k2 (i := j) (x := us[j]'(by omega)) (List.getElem?_eq_getElem _)
                rw [hj] at q1; injection q1 with q1; subst q1
                have q3 := oneA_cells q2 (List.all_eq_true.1 hone _ (List.getElem_mem _))
                cases c <;> first | rfl | skip
                · exfalso
                  generalize hu : us[j]'(by omega) = u at q2
                  have q4 := List.all_eq_true.1 hone u (hu ▸ List.getElem_mem _)
                  cases u with
                  | d x => rcases rdD_slice q2 with ⟨y, rfl⟩ | ⟨_, _, _, q5⟩
                           · have := lit_inv q2; subst this; cases q4
                           · cases q5
                  | ptr => obtain ⟨_, _, _, q5⟩ := q2; cases q5
                  | own => rcases rdD_slice q2.1 with ⟨y, q5⟩ | ⟨_, _, _, q5⟩ <;> cases q5
                  | elt => obtain ⟨_, _, _, q5, _⟩ := q2; cases q5
                  | fn => obtain ⟨_, _, q5, _⟩ := q2; cases q5
                  | tab => obtain ⟨_, ⟨_, _, q5⟩, _⟩ := q2; cases q5
                  | mp => obtain ⟨_, _, _, q5⟩ := q2; cases q5
                · exfalso
                  generalize hu : us[j]'(by omega) = u at q2
                  have q4 := List.all_eq_true.1 hone u (hu ▸ List.getElem_mem _)
                  cases u with
                  | d x => rcases rdD_slice q2 with ⟨y, rfl⟩ | ⟨_, _, _, q5⟩
                           · have := lit_inv q2; subst this; cases q4
                           · cases q5
                  | ptr => obtain ⟨_, _, _, q5⟩ := q2; cases q5
                  | own => rcases rdD_slice q2.1 with ⟨y, q5⟩ | ⟨_, _, _, q5⟩ <;> cases q5
                  | elt => obtain ⟨_, _, _, q5, _⟩ := q2; cases q5
                  | fn => obtain ⟨_, _, q5, _⟩ := q2; cases q5
                  | tab => obtain ⟨_, ⟨_, _, q5⟩, _⟩ := q2; cases q5
                  | mp => obtain ⟨_, _, _, q5⟩ := q2; cases q5
              have hlen : len ≤ 16777216 := by
                have := Nat.le_mul_of_pos_right len hk0; omega
              obtain ⟨γ', M', r1, r2, r3⟩ := own_moved (w1 := w) hr (key := n) (e := e) (k := k) (n := len) (xs := chunk k len ds) (cells := vs) (cap := len) (cs := vs.toArray) ((hk n (by simp)).trans (by simpa using c2)) (.inl rfl) hk0
                (chunk_len k len ds) (Nat.le_refl _) (by simp [maxLen]; omega) (by omega) (fun i row hi => by
                  have hlt := (List.getElem?_eq_some_iff.1 hi).1
                  rw [chunk_len] at hlt
                  rw [chunk_get k len ds i hlt] at hi
                  injection hi with hi; subst hi
                  have q5 := Nat.mul_le_mul_right k (show i + 1 ≤ len from hlt)
                  rw [Nat.add_mul] at q5
                  have q6 := k3.len
                  simp; omega) hvl h1 (fun i row j d hi hj => by
                  have hlt := (List.getElem?_eq_some_iff.1 hi).1
                  rw [chunk_len] at hlt
                  rw [chunk_get k len ds i hlt] at hi
                  injection hi with hi; subst hi
                  rw [List.getElem?_take, List.getElem?_drop] at hj
                  split at hj
                  · obtain ⟨u, u1, u2⟩ := All2.get k3 hj
                    exact ⟨u, u1, u2⟩
                  · cases hj) (by simpa using hvl) (by simp [← hvl]) (fun j x hj hx => by
                  have := (Array.getElem?_eq_some_iff.1 hx).1
                  simp at this; omega) rfl rfl rfl rfl
              unfold Oper.wp
              have hsz : (sizeOf e).run P w = .ok k w := sizeT_run e2
              have hps : (parts.map fun (q : Nat × Operand) => (q.1, a.eval q.2)).toList = parts.toList.map fun (i, x) => (i, a.eval x) := by simp
              have hzv : (zeroValue e).run P w = .ok z w := by simp [zeroValue, typeInfo, hi, hzz]
              have hrun : (execOp a.eval o).run P w = .ok (.value (.slice (some ⟨w.heap.size, 0, none⟩) len len)) (w.alloc (.cells vs.toArray e)) := by
                by_cases h0 : len * k = 0
                · have hC0 : C = [] := by rw [hC, h0]; rfl
                  rw [hC0] at k1
                  have k1' : Instr.fill (fun i => some (i * k, k)) #[] (parts.map fun (q : Nat × Operand) => (q.1, a.eval q.2)).toList = some vs.toArray := by rw [hps]; exact k1
                  simp only [Array.toList_map] at k1'
                  have k2' : ∀ f : Nat → Value, Instr.fill (fun i => some (i * k, k)) (Array.map f (Array.range 0)) (List.map (fun x => (x.fst, a.eval x.snd)) parts.toList) = some vs.toArray := by
                    intro f
                    have hq : Array.map f (Array.range 0) = #[] := by apply Array.ext'; simp [Array.toList_range]
                    rw [hq]; exact k1'
                  simp [execOp, ho, Instr.buildSlice, run_underlying e1, hsz, h0, newRow, k2']
                · have hC1 : C.toArray = (Array.range (len * k)).map fun j => z.cells[j % z.cells.size]! := by
                    rw [hC, hzs]; apply Array.ext'; simp
                  rw [hC1] at k1
                  have k1' : Instr.fill (fun i => some (i * k, k)) ((Array.range (len * k)).map fun j => z.cells[j % z.cells.size]!) (parts.map fun (q : Nat × Operand) => (q.1, a.eval q.2)).toList = some vs.toArray := by rw [hps]; exact k1
                  simp at k1'
                  have h3 : ¬ 16777216 < len * k := by omega
                  have h00 : ¬ (len = 0 ∨ k = 0) := by intro h5; apply h0; rcases h5 with h5 | h5 <;> simp [h5]
                  simp [execOp, ho, Instr.buildSlice, run_underlying e1, hsz, h3, h0, newRow, hzv, k1']
              rw [hrun]
              exact hn _ γ' M' _ r1 r2 r3
            · cases hb
          · cases hb
        · cases hb
      · cases hb
    · cases hb
  · cases hb
end
end Go.Proofs.YtikglhmabidjoaaGreatDoor.Lf
