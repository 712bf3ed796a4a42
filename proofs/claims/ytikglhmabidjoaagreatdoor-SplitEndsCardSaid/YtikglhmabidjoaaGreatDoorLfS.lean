/- Lifted values: slices that are made and written; comparisons of structs of numbers, of slices with nil. No program in sight. -/
import Derived.Test.YtikglhmabidjoaaGreatDoorLfH
namespace Go.Proofs.YtikglhmabidjoaaGreatDoor.Lf
open Go.RowKit Nt
set_option linter.unusedVariables false
set_option linter.unusedSimpArgs false
section
variable {γ γ' : Gh} {h h' : Hp} {M M' : MS} {w w' : World} {T T' : Nat → Option V} {a : Act} {P : Program}
theorem flat_row {k : Nat} : ∀ {rows : List (List D)} {m : Nat} {row : List D}, (∀ r ∈ rows, r.length = k) → rows[m]? = some row →
    ∃ pre post : List D, rows.flatten = pre ++ (row ++ post) ∧ pre.length = m * k ∧ ∀ row', (rows.set m row').flatten = pre ++ (row' ++ post)
  | [], m, row, _, hm => by simp at hm
  | r :: rows, 0, row, hk, hm => by
    simp at hm; subst hm
    exact ⟨[], rows.flatten, by simp, by simp, fun row' => by simp⟩
  | r :: rows, m + 1, row, hk, hm => by
    simp at hm
    obtain ⟨pre, post, h1, h2, h3⟩ := flat_row (fun r hr => hk r (by simp [hr])) hm
    exact ⟨r ++ pre, post, by simp [h1], by simp [h2, hk r (by simp), Nat.add_mul]; omega, fun row' => by simp [h3]⟩
theorem take_mid {α : Type} {pre row post : List α} {j : Nat} (hj : j ≤ row.length) : (pre ++ (row ++ post)).take (pre.length + j) = pre ++ row.take j := by
  rw [List.take_length_add_append, List.take_append_of_le_length hj]
theorem drop_mid {α : Type} {pre row post : List α} {j : Nat} (hj : j ≤ row.length) : (pre ++ (row ++ post)).drop (pre.length + j) = row.drop j ++ post := by
  rw [List.drop_length_add_append, List.drop_append_of_le_length hj]
theorem OT_ixt {o : Oper} {t e : TypeId} {x i : Operand} {key nn m s : Nat} (ho : o.op = .indexAddr t x i) (hx : evL T x = some (.a (.tab key nn))) (hi : natI (evL T i) = some m) (he : elemT P t = some (e, s)) (hm : m < nn) : OT P o T h (.a (.ptr key (m * s))) [] [] := by
  intro T' h' γ M w a next Q hT hk hr ht hn
  have hx' : evL T' x = some (.a (.tab key nn)) := by rw [← hx]; exact evL_congr fun d hd => hT d (by rw [ho]; simp [Op.operands, hd])
  have hi' : natI (evL T' i) = some m := by rw [← hi]; congr 1; exact evL_congr fun d hd => hT d (by rw [ho]; simp [Op.operands, hd])
  obtain ⟨k1, ⟨g, k2, k3⟩, _⟩ := evL_ok ht hx'
  obtain ⟨ki, hki⟩ := natI_ok ht hi'
  obtain ⟨e1, e2⟩ := elemT_ok he
  unfold Oper.wp
  have : (execOp a.eval o).run P w = .ok (.value (.pointer (some ⟨g, 0 + m * s, none⟩))) w := by
    simp [execOp, ho, k3, hki, Instr.indexAt, asIntOf, run_underlying e1, sizeT_run e2, hm, Addr.add_lit]
  rw [this]
  exact hn _ γ M w hr ⟨k1, g, k2, by rw [Nat.zero_add]⟩ (Stp.refl _ _ _ _)
theorem all2_d {ds : List D} {vs : List Value} (k : All2 (RdD M w) ds vs) : All2 (RdA γ h M w) (ds.map .d) vs := All2.map (All2.imp (fun _ _ q => q) k)
theorem OT_ldt {o : Oper} {t e : TypeId} {x : Operand} {key off m j k s : Nat} {rows : List (List D)} {row : List D} {ag : Bool} {v : V} (ho : o.op = .load t x) (hx : evL T x = some (.a (.ptr key off))) (hh : h key = some (.tab e k rows)) (h2 : aggT P t = some ag) (h3 : sizeT P t = some s)
    (hoff : off = m * k + j) (hrow : rows[m]? = some row) (hv : oneL ag (((row.drop j).take s).map .d) s = some v) : OT P o T h v [] [key] := by
  intro T' h' γ M w a next Q hT hk hr ht hn
  have hx' : evL T' x = some (.a (.ptr key off)) := by rw [← hx]; exact evL_congr fun d hd => hT d (by rw [ho]; simp [Op.operands, hd])
  obtain ⟨_, g, k1, k2⟩ := evL_ok ht hx'
  obtain ⟨g', vs, k3, k4, k5, k6, _⟩ := hr.ent key _ ((hk key (by simp)).trans hh)
  rw [k1] at k3; injection k3 with k3; injection k3 with k3; injection k3 with k3; subst k3
  obtain ⟨pre, post, f1, f2, _⟩ := flat_row k5 hrow
  have hrl : row.length = k := k5 row (List.mem_of_getElem? hrow)
  have hs : ((row.drop j).take s).length = s := by
    unfold oneL at hv
    split at hv
    · rename_i e; simpa using e
    · cases hv
  have hcut : (rows.flatten.drop off).take s = (row.drop j).take s := by
    rw [f1, hoff, List.drop_append, List.drop_eq_nil_of_le (by omega), f2, show m * k + j - m * k = j by omega, List.nil_append, List.drop_append]
    rcases Nat.eq_zero_or_pos s with h0 | h0
    · subst h0; simp
    · have : j + s ≤ row.length := by simp at hs; omega
      rw [List.take_append_of_le_length (by simp; omega)]
  have k7 := all2_d (γ := γ) (h := h') (All2.take s (All2.drop off k6))
  rw [hcut] at k7
  obtain ⟨k8, k9⟩ := oneL_ok hv k7
  unfold Oper.wp
  have : (execOp a.eval o).run P w = .ok (.value (if ag then .agg ((vs.drop off).take s).toArray else ((vs.drop off).take s).headD undef)) w := by
    have h4 : (Instr.loadAt t (a.eval x)).run P w = .ok (if ag then .agg ((vs.drop off).take s).toArray else ((vs.drop off).take s).headD undef) w := by
      rw [k2]
      simp only [Instr.loadAt, Instr.sureAddr, Sem.run_bind, Sem.run_pure, Result.andThen_ok]
      refine loadVar_run h2 h3 (fun e => by subst e; exact oneL_one hv) k8 fun j u hj => ?_
      rw [List.getElem?_take, List.getElem?_drop] at hj
      split at hj
      · simp [World.cell?, k4, hj]
      · cases hj
    simp [execOp, ho, h4]
  rw [this]
  exact hn _ γ M w hr k9 (Stp.refl _ _ _ _)
theorem set_tab (r : Rel γ h M w) {key g : Nat} {t : TypeId} {k : Nat} {cs cs' : List (List D)} {vs' : List Value} (hk : h key = some (.tab t k cs)) (hl : cs'.length = cs.length) (hg : γ key = .pointer (some ⟨g, 0, none⟩))
    (hw' : w'.heap[g]? = some (.cells vs'.toArray t (0, 0))) (ho : ∀ b, b ≠ g → w'.heap[b]? = w.heap[b]?) (h1 : w'.os = w.os) (h2 : w'.tape = w.tape) (h3 : w'.output = w.output) (hs : w'.heap.size = w.heap.size)
    (hkk : ∀ row ∈ cs', row.length = k) (k4 : All2 (RdD M w) cs'.flatten vs') (k1 : ∀ v ∈ vs', v.oneCell' = true) (hp : ∀ (i : Nat) (x : Value), vs'.toArray[i]? = some x → ∀ z : Int, x ≠ .int .u32 z) :
    Rel γ (over [(key, .tab t k cs')] h) M w' ∧ Stp γ h M w γ (over [(key, .tab t k cs')] h) M w' := by
  have hM : ∀ i, M g i := fun i => r.own key g i (by unfold Owns; rw [hk]; simp [hg, blk])
  have hown : ∀ key' b i, Owns γ (over [(key, .tab t k cs')] h) key' b i ↔ Owns γ h key' b i := by
    intro key' b i
    by_cases e : key' = key
    · subst e; unfold Owns; rw [over_same, hk]
    · exact owns_congr rfl (over_other e)
  have s : Stp γ h M w γ (over [(key, .tab t k cs')] h) M w' := by
    refine ⟨h1, h2, h3, by omega, fun b i u q => ?_, fun b hb hn => ?_, fun b i q _ => q, fun key' b i q _ => ⟨key', (hown _ _ _).1 q⟩, fun key' e he => ?_⟩
    · have hne : b ≠ g := fun e => q.1 (e ▸ hM i)
      exact ⟨q.1, by rw [← q.2]; exact World.cell?_of_block (a := ⟨b, i, none⟩) (ho b hne)⟩
    · refine ho b fun e => hn key 0 ?_
      subst e; unfold Owns; rw [hk]; simp [hg, blk]
    · by_cases e1 : key' = key
      · subst e1
        rw [hk] at he; injection he with he; subst he
        exact ⟨_, over_same, hl, .inl rfl⟩
      · exact ⟨e, by rw [over_other e1]; exact he, Goes.refl _, .inl rfl⟩
  refine ⟨⟨fun key' e he => ?_, fun key' b i q => r.own key' b i ((hown _ _ _).1 q), fun key1 key2 b l1 l2 => ?_, fun b i z hm => ?_, fun b i hm => by rw [hs]; exact r.dom b i hm, r.glb.fx s.fx⟩, s⟩
  · by_cases e1 : key' = key
    · subst e1
      rw [over_same] at he; injection he with he; subst he
      exact ⟨g, vs', hg, hw', hkk, All2.imp (fun _ _ => RdD.fx s.fx) k4, k1⟩
    · rw [over_other e1] at he
      refine EntR.stp s (r.ent key' e he) rfl fun hl b hb => ho b fun e2 => e1 ?_
      exact r.inj key' key b (by rw [he]; exact hl) (by rw [hk]; rfl) hb (by rw [hg, e2]; rfl)
  · have : ∀ k0, live (over [(key, .tab t k cs')] h k0) = true → live (h k0) = true := by
      intro k0 hl
      by_cases e1 : k0 = key
      · subst e1; rw [hk]; rfl
      · rwa [over_other e1] at hl
    exact r.inj key1 key2 b (this _ l1) (this _ l2)
  · by_cases e1 : b = g
    · subst e1
      intro h5
      have : vs'.toArray[i]? = some (.int .u32 z) := by simpa [World.cell?, hw'] using h5
      exact hp i _ this z rfl
    · rw [World.cell?_of_block (w := w) (a := ⟨b, i, none⟩) (ho b e1)]
      exact r.u32 b i z hm
theorem OT_stt {o : Oper} {t e : TypeId} {x y : Operand} {key off m j k s : Nat} {rows : List (List D)} {row ds : List D} {vy : V} {xs : List A} (ho : o.op = .store t x y) (hx : evL T x = some (.a (.ptr key off))) (hy : evL T y = some vy) (hh : h key = some (.tab e k rows)) (h3 : sizeT P t = some s)
    (hc : cellsV vy = some xs) (hd : toDs xs = some ds) (hl : xs.length = s) (hp : xs.all plainA = true) (hoff : off = m * k + j) (hrow : rows[m]? = some row) (hjs : j + s ≤ row.length) :
    OT P o T h (vl undef) [(key, .tab e k (rows.set m (row.take j ++ ds ++ row.drop (j + s))))] [key] := by
  intro T' h' γ M w a next Q hT hk hr ht hn
  have hx' : evL T' x = some (.a (.ptr key off)) := by rw [← hx]; exact evL_congr fun d hd => hT d (by rw [ho]; simp [Op.operands, hd])
  have hy' : evL T' y = some vy := by rw [← hy]; exact evL_congr fun d hd => hT d (by rw [ho]; simp [Op.operands, hd])
  have hkey := (hk key (by simp)).trans hh
  obtain ⟨_, g, k1, k2⟩ := evL_ok ht hx'
  obtain ⟨us, q1, q2⟩ := cellsV_ok (evL_ok ht hy') hc
  obtain ⟨g', vs, k3, k4, k5, k6, k66⟩ := hr.ent key _ hkey
  rw [k1] at k3; injection k3 with k3; injection k3 with k3; injection k3 with k3; subst k3
  obtain ⟨pre, post, f1, f2, f3⟩ := flat_row k5 hrow
  have hrl : row.length = k := k5 row (List.mem_of_getElem? hrow)
  have hul : us.length = s := by rw [← hl]; exact q2.len.symm
  have q3 := toDs_ok q2 hd
  have hdl : ds.length = s := by rw [q3.len, hul]
  have hvl := k6.len
  have hfl : rows.flatten.length = m * k + (k + post.length) := by rw [f1]; simp [f2, hrl]
  have hone : ∀ v ∈ us, v.oneCell' = true := by
    intro v hv
    obtain ⟨i, hi⟩ := List.mem_iff_getElem?.1 hv
    have hlt := (List.getElem?_eq_some_iff.1 hi).1
    obtain ⟨q, z1, z2⟩ := All2.get q2 (i := i) (x := xs[i]'(by omega)) (List.getElem?_eq_getElem _)
    rw [hi] at z1; injection z1 with z1; subst z1
    exact plain_one z2 (List.all_eq_true.1 hp _ (List.getElem_mem _))
  have hrun := run_storeCells_at P g off e us 0 vs.toArray w k4 (by simp; omega) hone
  simp only [Nat.add_zero, List.toList_toArray, hul] at hrun
  have hcut : (rows.set m (row.take j ++ ds ++ row.drop (j + s))).flatten = rows.flatten.take off ++ ds ++ rows.flatten.drop (off + s) := by
    rw [f3, f1, hoff, ← f2, take_mid (by omega), Nat.add_assoc, drop_mid (by omega)]
    simp
  have k8 : All2 (RdD M w) (rows.set m (row.take j ++ ds ++ row.drop (j + s))).flatten (vs.take off ++ us ++ vs.drop (off + s)) := by
    rw [hcut]; exact All2.app (All2.app (All2.take _ k6) q3) (All2.drop _ k6)
  have hpl : ∀ (i : Nat) (x : Value), (vs.take off ++ us ++ vs.drop (off + s)).toArray[i]? = some x → ∀ z : Int, x ≠ .int .u32 z := by
    intro i x hi
    have hi' : (vs.take off ++ us ++ vs.drop (off + s))[i]? = some x := by simpa using hi
    have hold : ∀ j', vs[j']? = some x → ∀ z : Int, x ≠ .int .u32 z := fun j' hj z ez => by
      refine hr.u32 g j' z (hr.own key g j' (by unfold Owns; rw [hkey]; simp [k1, blk])) ?_
      subst ez; simp only [World.cell?, k4]; simpa using hj
    rcases List.mem_append.1 (List.mem_of_getElem? hi') with hm | hm
    · rcases List.mem_append.1 hm with hm | hm
      · obtain ⟨j', hj⟩ := List.mem_iff_getElem?.1 (List.mem_of_mem_take hm); exact hold j' hj
      · obtain ⟨j', hj⟩ := List.mem_iff_getElem?.1 hm
        have hlt := (List.getElem?_eq_some_iff.1 hj).1
        obtain ⟨q, z1, z2⟩ := All2.get q2 (i := j') (x := xs[j']'(by omega)) (List.getElem?_eq_getElem _)
        rw [hj] at z1; injection z1 with z1; subst z1
        exact plainA_u32 z2 (List.all_eq_true.1 hp _ (List.getElem_mem _))
    · obtain ⟨j', hj⟩ := List.mem_iff_getElem?.1 (List.mem_of_mem_drop hm); exact hold j' hj
  obtain ⟨r1, r2⟩ := set_tab (w' := w.setRow g (vs.take off ++ us ++ vs.drop (off + s)).toArray) hr hkey (by simp) k1 (setRow_heap w g _ _ e _ k4) (fun b hb => setRow_other w g b _ hb) rfl rfl rfl (by simp) (fun r hr' => by
    rcases List.mem_or_eq_of_mem_set hr' with h5 | h5
    · exact k5 r h5
    · subst h5; simp [hdl]; omega) k8 (fun v hv => by
    rcases List.mem_append.1 hv with hm | hm
    · rcases List.mem_append.1 hm with hm | hm
      · exact k66 v (List.mem_of_mem_take hm)
      · exact hone v hm
    · exact k66 v (List.mem_of_mem_drop hm)) hpl
  unfold Oper.wp
  have : (execOp a.eval o).run P w = .ok .skip (w.setRow g (vs.take off ++ us ++ vs.drop (off + s)).toArray) := by
    simp [execOp, ho, Instr.storeAt, k2, Instr.sureAddr, storeVar, sizeT_run h3, q1, hul, hrun]
  rw [this]
  exact hn undef γ M _ r1 (.lit _) r2
theorem OT_mk {o : Oper} {t e : TypeId} {l c : Operand} {n nn k : Nat} {zs : List A} {ds : List D} (ho : o.op = .makeSlice t l c) (h1 : natI (evL T l) = some nn) (h2 : natI (evL T c) = some nn) (he : elemT P t = some (e, k)) (hz : zeroT P zb e = some zs) (hd : toDs zs = some ds)
    (hok : appOk P e k = true) (hzp : zs.all plainA = true) (hn0 : h n = none) (hb : nn ≤ 68719476736) : OT P o T h (.a (.tab n nn)) [(n, .tab e k (List.replicate nn ds))] [n] := by
  intro T' h' γ M w a next Q hT hk hr ht hn
  have h1' : natI (evL T' l) = some nn := by rw [← h1]; congr 1; exact evL_congr fun d hd => hT d (by rw [ho]; simp [Op.operands, hd])
  have h2' : natI (evL T' c) = some nn := by rw [← h2]; congr 1; exact evL_congr fun d hd => hT d (by rw [ho]; simp [Op.operands, hd])
  obtain ⟨kl, e1⟩ := natI_ok ht h1'
  obtain ⟨kc, e2⟩ := natI_ok ht h2'
  obtain ⟨u1, u2⟩ := elemT_ok he
  obtain ⟨i, z, i1, i2, hk0, i3, i4, i5, i6⟩ := appOk_ok hok
  obtain ⟨i', z', j1, j2, j3⟩ := zeroT_ok (γ := γ) (h := h') (M := M) (w := w) zb_ok hz
  rw [i1] at j1; injection j1 with j1; subst j1
  rw [i2] at j2; injection j2 with j2; subst j2
  have hzl : z.cells.toList.length = k := by simpa using i5
  have hdd := toDs_ok j3 hd
  have hdl : ds.length = k := by rw [hdd.len, hzl]
  have hby : (i.bytes : Int) * (nn : Int) ≤ 281474976710656 := by
    have : i.bytes * nn ≤ 2048 * 68719476736 := Nat.mul_le_mul i4 hb
    have : ((i.bytes * nn : Nat) : Int) ≤ 281474976710656 := by omega
    rwa [Int.natCast_mul] at this
  have hrun := run_make (P := P) w t e i z u1 i1 i2 kl kc nn nn (by omega) (Int.le_refl _) hby (by omega)
  simp only [Int.toNat_natCast, i3] at hrun
  have hcells : (madeCells z.cells (nn * k)).toList = (List.replicate nn z.cells.toList).flatten := by
    apply List.ext_getElem?
    intro j
    by_cases hj : j < nn * k
    · rw [flat_get _ hzl nn j hj]
      have hlt : j % k < z.cells.size := by rw [i5]; exact Nat.mod_lt _ hk0
      simp [madeCells, hj, i5]
      rw [getElem!_pos z.cells (j % k) hlt, Array.getElem?_eq_getElem hlt]
    · have h7 : (List.replicate nn z.cells.toList).flatten.length = nn * k := flat_len _ hzl nn
      have h8 : (madeCells z.cells (nn * k)).toList.length = nn * k := by rw [Array.length_toList, size_madeCells]
      rw [List.getElem?_eq_none (by omega), List.getElem?_eq_none (by omega)]
  have harr : madeCells z.cells (nn * k) = ((List.replicate nn z.cells.toList).flatten).toArray := by rw [← hcells]
  have hall : ∀ nn : Nat, All2 (RdD M w) (List.replicate nn ds).flatten (List.replicate nn z.cells.toList).flatten := by
    intro nn
    induction nn with
    | zero => trivial
    | succ m ih => rw [List.replicate_succ, List.replicate_succ, List.flatten_cons, List.flatten_cons]; exact All2.app hdd ih
  have hbk : ∀ b, blk (.pointer (some ⟨w.heap.size, 0, none⟩)) = some b → b = w.heap.size := by intro b hb; simp [blk] at hb; exact hb.symm
  have hfree : h' n = none := (hk n (by simp)).trans hn0
  have hn' : ∀ e1, h' n = some e1 → Goes e1 (.tab e k (List.replicate nn ds)) ∧ Grown1 e1 (.tab e k (List.replicate nn ds)) := fun e1 he => by rw [hfree] at he; cases he
  have s := stp_new hr hn' (e := .tab e k (List.replicate nn ds)) (v := .pointer (some ⟨w.heap.size, 0, none⟩)) (cs := ((List.replicate nn z.cells.toList).flatten).toArray) (t := e) (w1 := w) rfl rfl rfl rfl (m := 0) hbk
  have r := rel_new hr hn' rfl rfl rfl rfl (m := 0) (v := .pointer (some ⟨w.heap.size, 0, none⟩)) (cs := ((List.replicate nn z.cells.toList).flatten).toArray) (t := e) (w1 := w) hbk ⟨_, _, upd_same, heap_alloc_new w _, fun row hrow => by rw [List.eq_of_mem_replicate hrow]; exact hdl, All2.imp (fun _ _ => RdD.fx s.fx) (hall nn), fun v hv => by
    obtain ⟨l, hl, hx⟩ := List.mem_flatten.1 hv
    rw [List.eq_of_mem_replicate hl] at hx
    obtain ⟨j, hj⟩ := List.mem_iff_getElem?.1 hx
    have hlt := (List.getElem?_eq_some_iff.1 hj).1
    have hzz := j3.len
    obtain ⟨q, z1, z2⟩ := All2.get j3 (i := j) (x := zs[j]'(by omega)) (List.getElem?_eq_getElem _)
    rw [hj] at z1; injection z1 with z1; subst z1
    exact plain_one z2 (List.all_eq_true.1 hzp _ (List.getElem_mem _))⟩ (fun _ i _ => Nat.zero_le i) (fun j x _ hj => by
    have hj' : ((List.replicate nn z.cells.toList).flatten)[j]? = some x := by simpa using hj
    obtain ⟨l, hl, hx⟩ := List.mem_flatten.1 (List.mem_of_getElem? hj')
    rw [List.eq_of_mem_replicate hl] at hx
    exact i6 x hx)
  unfold Oper.wp
  have : (execOp a.eval o).run P w = .ok (.value (.slice (some ⟨w.heap.size, 0, none⟩) nn nn)) (w.alloc (.cells ((List.replicate nn z.cells.toList).flatten).toArray e)) := by
    simp [execOp, ho, e1, e2, hrun, harr]
  rw [this]
  refine hn _ _ _ _ r ⟨by rw [over_same]; rfl, ⟨_, upd_same, rfl⟩, fun e1 k1 rows h5 => ?_⟩ s
  rw [over_same] at h5; injection h5 with h5; injection h5 with _ _ h5; subst h5; simp
def eqFs (P : Program) (xs ys : List A) : List Field → Option Bool
  | [] => some true
  | f :: fs => match intT P f.type, aggT P f.type, xs[f.offset]?, ys[f.offset]? with
    | some _, some false, some (.d (.lit (.int k a))), some (.d (.lit (.int k' b))) => if k = k' ∧ f.name ≠ "_" ∧ sizeT P f.type = some 1 then (match eqFs P xs ys fs with
      | some r => some ((a == b) && r)
      | none => none) else none
    | _, _, _, _ => none
def eqOk (P : Program) (t : TypeId) : Bool := !P.stoodInHeld t && !P.eqGuardType P.depth t
def structT (P : Program) (t : TypeId) : Option (List Field) :=
  match P.underlying t with
  | some (.struct fs) => some fs.toList
  | _ => none
theorem cellA {xs : List A} {us : List Value} (k : All2 (RdA γ h M w) xs us) {j : Nat} {v : Value} (hj : xs[j]? = some (.d (.lit v))) : us[j]? = some v := by
  obtain ⟨y, h1, h2⟩ := All2.get k hj
  rw [h1, show y = v from lit_inv h2]
theorem part_one {t : TypeId} {us : List Value} {j : Nat} {v : Value} (h1 : aggT P t = some false) (h2 : sizeT P t = some 1) (hj : us[j]? = some v) : (part t us.toArray j).run P w = .ok v w := by
  obtain ⟨hj1, hj2⟩ := List.getElem?_eq_some_iff.1 hj
  simp [part, aggT_run h1, hj1, hj2]
theorem eqFs_run {xs ys : List A} {us vs : List Value} (k : All2 (RdA γ h M w) xs us) (k' : All2 (RdA γ h M w) ys vs) {d : Nat} : ∀ {fs : List Field} {r : Bool}, eqFs P xs ys fs = some r → (Op.eqFields (d + 1) us.toArray vs.toArray fs).run P w = .ok r w
  | [], r, he => by simp only [eqFs] at he; injection he with he; subst he; simp [Op.eqFields]
  | f :: fs, r, he => by
    simp only [eqFs] at he
    split at he
    · rename_i kk k1 x k2 y h1 h2 h3 h4
      split at he
      · rename_i hc
        obtain ⟨rfl, hn, hs⟩ := hc
        split at he
        · rename_i r' hr
          injection he with he; subst he
          have hu : P.underlying f.type = some (.int kk) := by unfold intT at h1; split at h1 <;> simp_all
          have ih := eqFs_run k k' (d := d) hr
          have e1 := run_equalIn_int (P := P) w d f.type k1 kk x y hu
          simp only [Op.eqFields, if_pos hn, Sem.run_bind, part_one h2 hs (cellA k h3), part_one h2 hs (cellA k' h4), Result.andThen_ok, e1]
          by_cases hxy : x = y
          · subst hxy; simp [ih]
          · simp [hxy]
        · cases he
      · cases he
    · cases he
theorem OT_eq {o : Oper} {op : BinOp} {t u : TypeId} {x y : Operand} {xs ys : List A} {fs : List Field} {r : Bool} (ho : o.op = .binOp op t x y u) (hop : op = .eql ∨ op = .neq) (hx : evL T x = some (.agg xs)) (hy : evL T y = some (.agg ys)) (hf : structT P t = some fs) (hr : eqFs P xs ys fs = some r) (hok : eqOk P t = true) :
    OT P o T h (vl (.bool (if op = .eql then r else !r))) [] [] := by
  intro T' h' γ M w a next Q hT hk hrl ht hn
  have hx' : evL T' x = some (.agg xs) := by rw [← hx]; exact evL_congr fun d hd => hT d (by rw [ho]; simp [Op.operands, hd])
  have hy' : evL T' y = some (.agg ys) := by rw [← hy]; exact evL_congr fun d hd => hT d (by rw [ho]; simp [Op.operands, hd])
  obtain ⟨us, e1, k1⟩ := evL_ok ht hx'
  obtain ⟨vs, e2, k2⟩ := evL_ok ht hy'
  unfold eqOk at hok
  simp only [Bool.and_eq_true, Bool.not_eq_true'] at hok
  unfold structT at hf
  split at hf
  · rename_i fs' hu
    injection hf with hf; subst hf
    have hfo : P.fieldsOf t = fs' := by simp [Program.fieldsOf, hu]
    have q1 := run_equalIn_struct (P := P) w 9999 t us.toArray vs.toArray (by rw [hfo]; exact hu) hok.1
    rw [hfo, eqFs_run k1 k2 (d := 9998) hr] at q1
    unfold Oper.wp
    have : (execOp a.eval o).run P w = .ok (.value (.bool (if op = .eql then r else !r))) w := by
      have g1 := run_eqGuard_agg (P := P) w op t x y us.toArray vs.toArray hok.2
      rcases hop with rfl | rfl
      · simp [execOp, ho, e1, e2, g1, run_eql_struct, q1]
      · simp [execOp, ho, e1, e2, g1, run_neq_struct, q1]
    rw [this]
    exact hn _ γ M w hrl (.lit _) (Stp.refl _ _ _ _)
  · cases hf
def slNe : V → Bool
  | .a (.d (.sl _ (_ :: _))) => true
  | .a (.own _ _ (_ :: _)) => true
  | _ => false
theorem OT_nz {o : Oper} {op : BinOp} {t u : TypeId} {x y : Operand} {v : V} (ho : o.op = .binOp op t x y u) (hop : op = .eql ∨ op = .neq) (hx : evL T x = some v) (hv : slNe v = true) (hy : evL T y = some (vl (.slice none 0 0))) (he : (elemT P t).isSome = true) :
    OT P o T h (vl (.bool (op == .neq))) [] [] := by
  intro T' h' γ M w a next Q hT hk hrl ht hn
  have hx' : evL T' x = some v := by rw [← hx]; exact evL_congr fun d hd => hT d (by rw [ho]; simp [Op.operands, hd])
  have hy' : evL T' y = some (vl (.slice none 0 0)) := by rw [← hy]; exact evL_congr fun d hd => hT d (by rw [ho]; simp [Op.operands, hd])
  have k1 := evL_ok ht hx'
  have k2 := lit_inv (evL_ok ht hy')
  obtain ⟨⟨e, s⟩, he⟩ := Option.isSome_iff_exists.1 he
  have hu := (elemT_ok he).1
  have key : ∃ ad n c, a.eval x = .slice (some ad) n c := by
    have : ∀ {k : Nat} {r : List D} {rs : List (List D)} {z : Value}, RdD M w (.sl k (r :: rs)) z → ∃ ad n c, z = .slice (some ad) n c := by
      intro k r rs z hz
      cases hz with
      | sl k xs ad cap vs hc hl h0 => obtain ⟨b, o, rfl, _⟩ := h0 (by simp); exact ⟨_, _, _, rfl⟩
    unfold slNe at hv
    split at hv
    · exact this k1
    · exact this k1.1
    · cases hv
  obtain ⟨ad, n, c, e1⟩ := key
  have hq := eq_nil_run (P := P) (w := w) (a := some ad) (n := n) (c := c) hu
  unfold Oper.wp
  have : (execOp a.eval o).run P w = .ok (.value (.bool (op == .neq))) w := by
    rcases hop with rfl | rfl
    · simp [execOp, ho, e1, k2, eqGuard, binOp, hq]
    · simp [execOp, ho, e1, k2, eqGuard, binOp, hq]
  rw [this]
  exact hn _ γ M w hrl (.lit _) (Stp.refl _ _ _ _)
theorem freeze (r : Rel γ h M w) {key k nn : Nat} {e : TypeId} {rows : List (List D)} (hk : h key = some (.tab e k rows)) (hl : nn ≤ 1099511627776) :
    ∃ M', Rel γ (over [(key, .gone)] h) M' w ∧ Stp γ h M w γ (over [(key, .gone)] h) M' w ∧ ∀ v, RdV γ h M w (.a (.tab key nn)) v → RdD M' w (.sl k rows) v := by
  obtain ⟨g, vs, k1, k2, k3, k4, k5⟩ := r.ent key _ hk
  have hne : ∀ key' b i, Owns γ (over [(key, .gone)] h) key' b i → key' ≠ key := by
    intro key' b i ho e1; subst e1
    unfold Owns at ho; rw [over_same] at ho; exact ho
  have hown : ∀ key' b i, Owns γ (over [(key, .gone)] h) key' b i → Owns γ h key' b i := fun key' b i ho => (owns_congr rfl (over_other (hne _ _ _ ho))).1 ho
  have hog : ∀ i, Owns γ h key g i := fun i => by unfold Owns; rw [hk]; simp [k1, blk]
  have s : Stp γ h M w γ (over [(key, .gone)] h) (fun b i => M b i ∧ b ≠ g) w :=
    ⟨rfl, rfl, rfl, Nat.le_refl _, fun b i v q => ⟨fun q2 => q.1 q2.1, q.2⟩, fun _ _ _ => rfl, fun b i q hn => ⟨q, fun e1 => hn key (e1 ▸ hog i)⟩, fun key' b i ho _ => ⟨key', hown _ _ _ ho⟩, fun key' e' he => by
      by_cases e1 : key' = key
      · subst e1; exact ⟨.gone, over_same, by cases e' <;> trivial, .inl rfl⟩
      · exact ⟨e', by rw [over_other e1]; exact he, Goes.refl _, .inl rfl⟩⟩
  have hlv : ∀ key', live (over [(key, .gone)] h key') = true → key' ≠ key ∧ live (h key') = true := by
    intro key' hl'
    by_cases e1 : key' = key
    · subst e1; rw [over_same] at hl'; cases hl'
    · exact ⟨e1, by rwa [over_other e1] at hl'⟩
  refine ⟨fun b i => M b i ∧ b ≠ g, ⟨fun key' e' he => ?_, fun key' b i ho => ⟨r.own _ _ _ (hown _ _ _ ho), fun e1 => ?_⟩, fun key1 key2 b l1 l2 => r.inj _ _ b (hlv _ l1).2 (hlv _ l2).2, fun b i z q => r.u32 b i z q.1, fun b i q => r.dom b i q.1, r.glb.fx s.fx⟩, s, fun v hv => ?_⟩
  · by_cases e1 : key' = key
    · subst e1; rw [over_same] at he; injection he with he; subst he; trivial
    · rw [over_other e1] at he
      exact EntR.stp s (r.ent key' e' he) rfl fun _ _ _ => rfl
  · subst e1
    obtain ⟨l1, l2⟩ := owns_live (hown _ _ _ ho)
    exact hne _ _ _ ho (r.inj key' key _ l1 (by rw [hk]; rfl) l2 (by rw [k1]; rfl))
  · obtain ⟨_, ⟨g', q1, q2⟩, q3⟩ := hv
    rw [k1] at q1; injection q1 with q1; injection q1 with q1; injection q1 with q1; subst q1
    have hn := q3 _ _ _ hk
    subst hn q2
    have hfl : ∀ {rows : List (List D)}, (∀ row ∈ rows, row.length = k) → rows.flatten.length = rows.length * k := by
      intro rows
      induction rows with
      | nil => intro _; simp
      | cons x xs ih => intro hx; rw [List.flatten_cons, List.length_append, ih (fun r hr => hx r (by simp [hr])), hx x (by simp), List.length_cons, Nat.add_mul]; omega
    refine sl_of (cells := vs) (Nat.le_refl _) hl (fun i row hi => k3 row (List.mem_of_getElem? hi)) (by rw [← k4.len, hfl k3]) k5 (fun _ => ⟨g, 0, rfl, fun q u hq => ⟨fun q2 => q2.2 rfl, by simp [World.cell?, k2, hq]⟩⟩) fun i row j d hi hj => ?_
    obtain ⟨pre, post, f1, f2, _⟩ := flat_row k3 hi
    have hjl := (List.getElem?_eq_some_iff.1 hj).1
    have : rows.flatten[i * k + j]? = some d := by
      rw [f1, ← f2, List.getElem?_append_right (by omega), show pre.length + j - pre.length = j by omega, List.getElem?_append_left hjl]; exact hj
    obtain ⟨u, u1, u2⟩ := All2.get k4 this
    exact ⟨u, u1, RdD.fx s.fx u2⟩
theorem Wk.freeze {m : Nat} {s : St} (d key nn : Nat) {k : Nat} {e : TypeId} {rows : List (List D)} (hT : look s.T d = some (.a (.tab key nn))) (hk : look s.H key = some (.tab e k rows)) (hl : nn ≤ 1099511627776) :
    Wk m s ⟨(d, .a (.d (.sl k rows))) :: s.T, (key, .gone) :: s.H, s.n⟩ := by
  intro N γ0 h0 M0 w0 a w hm hd hS
  obtain ⟨γ, M, k1, k2, k3, k4, k5⟩ := hS
  obtain ⟨M', q1, q2, q3⟩ := Lf.freeze k1 hk hl
  have e1 : look ((key, Ent.gone) :: s.H) = over [(key, .gone)] (look s.H) := look_app [(key, Ent.gone)] s.H
  refine ⟨γ, M', by rw [e1]; exact q1, ⟨k2.1.fx q2.fx, fun d' v' hv' => ?_⟩, k3, k4, by rw [e1]; exact k5.trans q2 hd⟩
  simp only [look] at hv'
  split at hv'
  · rename_i hdd; subst hdd
    injection hv' with hv'; subst hv'
    obtain ⟨x, y1, y2⟩ := k2.2 _ _ hT
    exact ⟨x, y1, q3 x y2⟩
  · obtain ⟨x, y1, y2⟩ := k2.2 d' v' hv'
    exact ⟨x, y1, by rw [e1]; exact RdV.stp q2 y2⟩
end
end Go.Proofs.YtikglhmabidjoaaGreatDoor.Lf
