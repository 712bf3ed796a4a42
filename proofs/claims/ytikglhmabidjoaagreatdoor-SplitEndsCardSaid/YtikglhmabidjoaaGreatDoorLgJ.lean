/- Layer 38, lifted: Open and what collects it. -/
import Derived.Test.YtikglhmabidjoaaGreatDoorLgI
namespace Go.Proofs.YtikglhmabidjoaaGreatDoor.Lf
open Go.RowKit Nt
set_option linter.unusedVariables false
set_option linter.unusedSimpArgs false
attribute [local go_sem] Oper.semAt_some
set_option maxRecDepth 100000
def Sp.Ds (s : Sp) : List D := [.lit (.int .i64 s.q.g.n), afsD s.q.g.us, afsD s.q.g.os, rqsD s.q.r.lo, rqsD s.q.r.hi, afsD s.q.r.rs, .sl 4 (s.q.goal.ts.map Tm.D), .lit (.bool (decide (s.q.goal.c < 0))), .lm (limbs s.q.goal.c.num.natAbs), .lm (limbs (dn s.q.goal.c)), dcsD s.path, lmsD s.ls]
theorem Sp.A_Ds (s : Sp) : s.A = s.Ds.map A.d := rfl
theorem all2_ds {γ : Gh} {h : Hp} {M : MS} {w : World} : ∀ {ds : List D} {vs : List Value}, All2 (RdA γ h M w) (ds.map A.d) vs → All2 (RdA γ0 (look []) M0 w) (ds.map A.d) vs
  | [], [], _ => trivial
  | d :: ds, v :: vs, k => ⟨toM0 (d := d) k.1, all2_ds k.2⟩
  | [], _ :: _, k => k.elim
  | _ :: _, [], k => k.elim
theorem scw_of {s : Sp} {γ : Gh} {h : Hp} {M : MS} {w : World} {vs : List Value} (k : All2 (RdA γ h M w) s.A vs) : ScW s w vs := by
  rw [Sp.A_Ds] at k
  rw [ScW, Sp.A_Ds]
  exact all2_ds k
theorem rel_box {t : TypeId} {cs : List A} {γ : Gh} {M : MS} {w w' : World} (r : Rel γ (look [(0, .box t cs)]) M w) (hb : Below w.heap.size w w') :
    Rel γ (look [(0, .box t cs)]) M w' ∧ Stp γ (look [(0, .box t cs)]) M w γ (look [(0, .box t cs)]) M w' := by
  have hc : ∀ b i, b < w.heap.size → w'.cell? ⟨b, i, none⟩ = w.cell? ⟨b, i, none⟩ := fun b i hlt => by simp only [World.cell?]; rw [hb.block b hlt]
  have hfx : ∀ b i v, Fx M w b i v → Fx M w' b i v := fun b i v hf => ⟨hf.1, by rw [hc b i (World.block_lt_of_cell? _ _ hf.2)]; exact hf.2⟩
  have s : Stp γ (look [(0, .box t cs)]) M w γ (look [(0, .box t cs)]) M w' := ⟨hb.os, hb.tape, hb.output, hb.size, hfx, fun b hlt _ => hb.block b hlt, fun b i hm _ => hm, fun key b i ho _ => ⟨key, ho⟩, fun key e he => ⟨e, he, Goes.refl e, .inl rfl⟩⟩
  refine ⟨⟨fun key e hk => ?_, r.own, r.inj, fun b i n hm => by rw [hc b i (r.dom b i hm)]; exact r.u32 b i n hm, fun b i hm => Nat.lt_of_lt_of_le (r.dom b i hm) hb.size, r.glb.fx hfx⟩, s⟩
  have h0 := r.ent key e hk
  simp only [look] at hk
  split at hk
  · injection hk with hk
    subst hk
    obtain ⟨g, vs, k1, k2, k3⟩ := h0
    exact ⟨g, vs, k1, (hb.block g (Array.getElem?_eq_some_iff.1 k2).1).trans k2, All2.imp (fun x v k => RdA.stp s k) k3⟩
  · cases hk
theorem callsIn_mono' {P : Program} {F : FuncId} {args : Array Value} {w : World} {Q R : Ending → World → Prop} (h : CallsIn Fence.wide 9 P F args w Q) (k : ∀ e w', Q e w' → R e w') : Calls P F args w R := (callsIn_wide (n := 9)).1 (h.mono k)
set_option maxHeartbeats 1000000 in
theorem collect_in {s : Sp} (hs : SpOk s) (g : Nat) (w : World) (hG : Glb M0 w) (vs : List Value) (hv : ScW s w vs) (hg : w.heap[g]? = some (.cells vs.toArray 43 (0, 0))) :
    CallsIn Fence.wide 9 Tryz.prog 29 #[.func (.func 66) #[] #[.pointer (some ⟨g, 0, none⟩)]] w fun e W' =>
      ∃ v, e = .returned v ∧ W'.ownsRow w.heap.size 3 1 v (openS s).length ((openS s).map encN) ∧ Below w.heap.size w W' := by
  refine callsIn_of_wp Tryz.func29 rfl trivial ?_ rfl
  simp only [Tryz.ntmps29, List.size_toArray, List.length_cons, List.length_nil, Nat.reduceAdd, Nat.reduceSub, Array.replicate_succ, Array.replicate_zero, List.push_toArray, List.append_toArray, List.nil_append, List.cons_append]
  gi_wp2_with fail
  refine ⟨trivial, (appendSeq_in hs 8 (by decide) g w hG vs hv hg).mono ?_⟩
  rintro e W1 ⟨v, rfl, h1, h2⟩
  gi_wp2_with fail
  exact ⟨rfl, _, results_tmp rfl _ _ _, v, rfl, h1, h2⟩
theorem row_of_owns {M : MS} {w w' : World} (hd : ∀ b i, M b i → b < w.heap.size) {l : List Nat} {v : Value} (h : w'.ownsRow w.heap.size 3 1 v l.length (l.map encN)) (hl : l.length ≤ 1099511627776) : RdD M w' (.sl 1 (l.map fun j => [.lit (encN j)])) v := by
  have hrow : ∀ (i : Nat) (row : List D), (l.map fun j => [D.lit (encN j)])[i]? = some row → ∃ j, l[i]? = some j ∧ row = [.lit (encN j)] := fun i row hi => by
    rw [List.getElem?_map] at hi
    cases hj : l[i]? with
    | none => rw [hj] at hi; cases hi
    | some j => rw [hj] at hi; injection hi with hi; exact ⟨j, rfl, hi.symm⟩
  rcases h.2 with ⟨rfl, h0⟩ | ⟨g, cap, cur, rfl, h1, h2, h3, h4, h5, h6⟩
  · obtain rfl : l = [] := List.eq_nil_of_length_eq_zero h0
    exact .sl 1 [] none 0 (fun _ _ => encN 0) (Nat.le_refl _) (Nat.zero_le _) (fun h => absurd h (by simp)) (fun i row h => by simp at h) (fun _ _ => rfl) (fun i row j d h => by simp at h)
  · have := RdD.sl (M := M) (w := w') 1 (l.map fun j => [D.lit (encN j)]) (some ⟨g, 0, none⟩) cap (fun i _ => encN (l.getD i 0)) (by simpa using h3) (by simpa using hl) (fun _ => ⟨g, 0, rfl, fun i row j d hi hj => ?_⟩) (fun i row hi => ?_) (fun _ _ => rfl) (fun i row j d hi hj => ?_)
    · rw [List.length_map] at this; exact this
    · obtain ⟨n, hn, rfl⟩ := hrow i row hi
      have hlt := at_lt hn
      obtain rfl : j = 0 := by
        rcases j with _ | j
        · rfl
        · simp at hj
      refine ⟨fun hm => absurd (hd _ _ hm) (by omega), ?_⟩
      have := h.cellAt i (by omega)
      rw [Nat.mul_one, Nat.zero_add, Nat.add_zero, this, List.getElem?_map, hn, List.getD_eq_getElem?_getD, hn]; rfl
    · obtain ⟨n, hn, rfl⟩ := hrow i row hi; rfl
    · obtain ⟨n, hn, rfl⟩ := hrow i row hi
      obtain rfl : j = 0 := by
        rcases j with _ | j
        · rfl
        · simp at hj
      injection hj with hj
      subst hj
      rw [List.getD_eq_getElem?_getD, hn]; exact .lit _
abbrev natsD (l : List Nat) : D := .sl 1 (l.map fun j => [.lit (encN j)])
theorem lx_collect {s : Sp} (hs : SpOk s) : LX Tryz.prog 29 [.a (.fn (.func 66) [] [.ptr 0 0])] [(0, .box 43 s.A)]
    fun v H => v = .a (.d (natsD (openS s))) ∧ H = [(0, .box 43 s.A)] := by
  refine ⟨_, _, ⟨rfl, rfl⟩, fun γ M w rs hr ha => ?_⟩
  obtain ⟨r, rfl, hf⟩ := all2_1 ha
  obtain ⟨x, y, rfl, hx, hy⟩ := hf
  obtain rfl : x = [] := by cases x with
    | nil => rfl
    | cons a b => exact hx.elim
  obtain ⟨p, rfl, hp⟩ : ∃ p, y = [p] ∧ RdB γ (look [(0, Ent.box 43 s.A)]) M w (.ptr 0 0) p := by
    match y, hy with
    | [p], hy => exact ⟨p, rfl, hy.1⟩
  obtain ⟨_, g, hg, rfl⟩ := hp
  obtain ⟨g', vs, k1, k2, k3⟩ := hr.ent 0 _ rfl
  rw [hg] at k1; injection k1 with k1; injection k1 with k1; injection k1 with k1; subst k1
  have hul := hs.q.g.u1
  refine callsIn_mono' (collect_in hs g w (hr.glb.fx fun b i v k => ⟨fun h => h, k.2⟩) vs (scw_of k3) k2) ?_
  rintro e w' ⟨v, rfl, h1, h2⟩
  obtain ⟨r1, r2⟩ := rel_box hr h2
  exact ⟨v, γ, M, rfl, r1, row_of_owns hr.dom h1 (by have := openS_len s; omega), r2⟩
theorem lx_open {s : Sp} : LX Tryz.prog 30 [.agg s.A] [] fun v H => v = .a (.fn (.func 66) [] [.ptr 0 0]) ∧ H = [(0, .box 43 s.A)] := by
  refine LX_run (m := 0) (n0 := 0) mix Tryz.func30 rfl rfl rfl rfl ?_
  conv => whnf
  exact ⟨_, _, ⟨rfl, rfl⟩, WkV.refl _, rfl, ⟨⟨_, rfl, wke_refl _, rfl⟩, trivial⟩, rfl⟩
end Go.Proofs.YtikglhmabidjoaaGreatDoor.Lf
