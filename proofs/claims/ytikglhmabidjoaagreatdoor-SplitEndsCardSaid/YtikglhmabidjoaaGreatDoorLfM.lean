/- Lifted values: maps of plain elements that are made, read, written. No program in sight. -/
import Derived.Test.YtikglhmabidjoaaGreatDoorLfS
import Derived.Maps.Own
namespace Go.Proofs.YtikglhmabidjoaaGreatDoor.Lf
open Go.RowKit Nt Go.Maps
set_option linter.unusedVariables false
set_option linter.unusedSimpArgs false
def MX (P : Program) (k e : TypeId) (n : Nat) (D : DataW Unit) (o : Obj) : Prop := ∃ w : World, w.heap[0]? = some o ∧ w.ownsMap P k (plainElem P e) 0 n D
section
variable {γ γ' : Gh} {h h' : Hp} {M M' : MS} {w w' : World} {T T' : Nat → Option V} {a : Act} {P : Program}
theorem MX.owns {k e : TypeId} {n b : Nat} {D : DataW Unit} {o : Obj} (hm : MX P k e n D o) (hb : w.heap[b]? = some o) : w.ownsMap P k (plainElem P e) b n D := by
  obtain ⟨w0, h0, es, clock, h1, h2⟩ := hm
  rw [h0] at h1; injection h1 with h1; subst h1
  exact ⟨es, clock, hb, h2⟩
theorem MX.of {k e : TypeId} {n b : Nat} {D : DataW Unit} {o : Obj} (hb : w.heap[b]? = some o) (hm : w.ownsMap P k (plainElem P e) b n D) : MX P k e n D o ∧ ∃ es clock, o = .map es clock := by
  obtain ⟨es, clock, h1, h2⟩ := hm
  rw [hb] at h1; injection h1 with h1; subst h1
  exact ⟨⟨{ w with heap := #[.map es clock] }, rfl, es, clock, rfl, h2⟩, es, clock, rfl⟩
theorem OT_mkmap {o : Oper} {t k e : TypeId} {n : Nat} (ho : o.op = .makeMap t none) (hn0 : h n = none) : OT P o T h (.a (.mp n)) [(n, .mp (MX P k e 0 (.map [])))] [n] := by
  intro T' h' γ M w a next Q hT hk hr ht hn
  have hfree : h' n = none := (hk n (by simp)).trans hn0
  have hold : ∀ b, b < w.heap.size → (w.alloc (.map #[] 0)).heap[b]? = w.heap[b]? := fun b hb => Below.heap_alloc _ _ _ hb
  have hnew : (w.alloc (.map #[] 0)).heap[w.heap.size]? = some (.map #[] 0) := (MapKept.heap_alloc w _).1
  obtain ⟨S, hS⟩ : ∃ S, S = over [(n, Ent.mp (MX P k e 0 (.map [])))] h' := ⟨_, rfl⟩
  have hSn : S n = some (.mp (MX P k e 0 (.map []))) := by rw [hS, over_same]
  have hSo : ∀ key, key ≠ n → S key = h' key := fun key e1 => by rw [hS, over_other e1]
  have s : Stp γ h' M w (upd γ n (.map (some w.heap.size))) S (fun b i => M b i ∨ b = w.heap.size) (w.alloc (.map #[] 0)) := by
    refine ⟨rfl, rfl, rfl, by simp, fun b i u k => ?_, fun b hb _ => hold b hb, fun b i k _ => .inl k, fun key b i ho hb => ?_, fun key e' he => ?_⟩
    · have hlt : b < w.heap.size := World.block_lt_of_cell? _ _ k.2
      exact ⟨fun k2 => k2.elim k.1 fun k3 => by omega, by rw [← k.2]; exact World.cell?_of_block (a := ⟨b, i, none⟩) (hold b hlt)⟩
    · by_cases e1 : key = n
      · subst e1
        obtain ⟨_, h5⟩ := owns_live ho
        rw [upd_same] at h5; simp [blk] at h5; omega
      · exact ⟨key, (owns_congr (upd_other e1) (hSo _ e1)).1 ho⟩
    · have e1 : key ≠ n := by intro e1; subst e1; rw [hfree] at he; cases he
      exact ⟨e', by rw [hSo _ e1]; exact he, Goes.refl _, .inl (upd_other e1)⟩
  have hM := World.ownsMap_made (H := Unit) w P k (plainElem P e)
  have r : Rel (upd γ n (.map (some w.heap.size))) S (fun b i => M b i ∨ b = w.heap.size) (w.alloc (.map #[] 0)) := by
    refine ⟨fun key e' h4 => ?_, fun key b i h4 => ?_, fun key key' b h4 h5 h6 h7 => ?_, fun b i z h4 => ?_, fun b i h4 => ?_, hr.glb.fx s.fx⟩
    · by_cases e1 : key = n
      · subst e1
        rw [hSn] at h4; injection h4 with h4; subst h4
        exact ⟨w.heap.size, _, upd_same, hnew, (MX.of hnew hM).1, _, _, rfl⟩
      · rw [hSo _ e1] at h4
        exact EntR.stp s (hr.ent key e' h4) (upd_other e1) fun hl b h5 => hold b (blk_lt hr h4 hl h5)
    · by_cases e1 : key = n
      · subst e1
        obtain ⟨_, h5⟩ := owns_live h4
        rw [upd_same] at h5; simp [blk] at h5; exact .inr h5.symm
      · exact .inl (hr.own key b i ((owns_congr (upd_other e1) (hSo _ e1)).1 h4))
    · have hlt : ∀ key, key ≠ n → live (S key) = true → blk (upd γ n (.map (some w.heap.size)) key) = some b → b < w.heap.size := by
        intro key e1 l1 l2
        rw [hSo _ e1] at l1
        rw [upd_other e1] at l2
        cases h8 : h' key with
        | none => rw [h8] at l1; cases l1
        | some e3 => exact blk_lt hr h8 (by rw [← h8]; exact l1) l2
      have hnn : ∀ key, key = n → blk (upd γ n (.map (some w.heap.size)) key) = some b → b = w.heap.size := by
        intro key e1 l2; subst e1; rw [upd_same] at l2; simp [blk] at l2; exact l2.symm
      by_cases e1 : key = n <;> by_cases e2 : key' = n
      · rw [e1, e2]
      · have := hlt _ e2 h5 h7; have := hnn _ e1 h6; omega
      · have := hlt _ e1 h4 h6; have := hnn _ e2 h7; omega
      · rw [hSo _ e1] at h4
        rw [hSo _ e2] at h5
        rw [upd_other e1] at h6
        rw [upd_other e2] at h7
        exact hr.inj key key' b h4 h5 h6 h7
    · rcases h4 with h4 | rfl
      · rw [World.cell?_of_block (w := w) (a := ⟨b, i, none⟩) (hold b (hr.dom b i h4))]
        exact hr.u32 b i z h4
      · intro h5; simp only [World.cell?] at h5; rw [hnew] at h5; cases h5
    · rcases h4 with h4 | rfl
      · have := hr.dom b i h4; simp; omega
      · simp
  unfold Oper.wp
  have : (execOp a.eval o).run P w = .ok (.value (.map (some w.heap.size))) (w.alloc (.map #[] 0)) := by
    simp [execOp, ho, run_makeMap]
  rw [this]
  subst hS
  exact hn _ _ _ _ r ⟨by rw [over_same]; rfl, _, upd_same, rfl⟩ s
structure LkOk (P : Program) (t : TypeId) (φ : Obj → Prop) (v : Value) (k e : TypeId) (n : Nat) (D : DataW Unit) (kl zl l : Lit) : Prop where
  ht : P.underlying t = some (.map k e)
  hK : Keyed P k
  hφ : φ = MX P k e n D
  hk : keyOf P k v = some kl
  hz : (P.info? e).bind (·.zero) = some zl.value
  hzd : plainElem (H := Unit) P e zl.value = some (.lit zl, [])
  hat : D.atKey kl (.lit zl) = .lit l
  hl : ∀ v ps, plainElem (H := Unit) P e v = some (.lit l, ps) → v = l.value
structure MuOk (P : Program) (t : TypeId) (φ : Obj → Prop) (v x : Value) (k e : TypeId) (n : Nat) (D : DataW Unit) (kl l : Lit) : Prop where
  ht : P.underlying t = some (.map k e)
  hK : Keyed P k
  hφ : φ = MX P k e n D
  hk : keyOf P k v = some kl
  hx : plainElem (H := Unit) P e x = some (.lit l, [])
  hn : n < maxLen
theorem plain_bool_inv {e : TypeId} {v : Value} {x : Bool} {ps : List MemPlace} (h : plainElem (H := Unit) P e v = some (.lit (.bool x), ps)) : v = (Lit.bool x).value := by
  unfold plainElem at h
  split at h
  · cases h; rfl
  · split at h <;> cases h
  · split at h <;> cases h
  · cases h
theorem OT_look {o : Oper} {t k e : TypeId} {m x : Operand} {key n : Nat} {φ : Obj → Prop} {v : Value} {D : DataW Unit} {kl zl l : Lit} (ho : o.op = .lookup t m x false) (hm : evL T m = some (.a (.mp key))) (hx : evL T x = some (vl v)) (hh : h key = some (.mp φ)) (hok : LkOk P t φ v k e n D kl zl l) :
    OT P o T h (vl l.value) [] [key] := by
  intro T' h' γ M w a next Q hT hk hr ht hn
  have hm' : evL T' m = some (.a (.mp key)) := by rw [← hm]; exact evL_congr fun d hd => hT d (by rw [ho]; simp [Op.operands, hd])
  have hx' : evL T' x = some (vl v) := by rw [← hx]; exact evL_congr fun d hd => hT d (by rw [ho]; simp [Op.operands, hd])
  obtain ⟨_, b, k1, k2⟩ := evL_ok ht hm'
  have k3 := lit_inv (evL_ok ht hx')
  obtain ⟨b', ob, q1, q2, q3, q4⟩ := hr.ent key _ ((hk key (by simp)).trans hh)
  rw [k1] at q1; injection q1 with q1; injection q1 with q1; subst q1
  rw [hok.hφ] at q3
  have hz : (zeroValue e).run P w = .ok zl.value w := by
    obtain ⟨i, h1, h2⟩ := Option.bind_eq_some_iff.1 hok.hz
    simp [zeroValue, typeInfo, h1, h2]
  obtain ⟨r, ps, hrun, hv⟩ := (q3.owns q2).lookup hok.hK hok.ht hz hok.hzd hok.hk
  rw [hok.hat] at hv
  have := hok.hl r ps hv
  subst this
  unfold Oper.wp
  have : (execOp a.eval o).run P w = .ok (.value l.value) w := by simp [execOp, ho, k2, k3, hrun]
  rw [this]
  exact hn _ γ M w hr (.lit _) (Stp.refl _ _ _ _)
theorem OT_mu {o : Oper} {t k e : TypeId} {m x y : Operand} {key n : Nat} {φ : Obj → Prop} {v u : Value} {D : DataW Unit} {kl l : Lit} (ho : o.op = .mapUpdate t m x y) (hm : evL T m = some (.a (.mp key))) (hx : evL T x = some (vl v)) (hy : evL T y = some (vl u)) (hh : h key = some (.mp φ)) (hok : MuOk P t φ v u k e n D kl l) :
    OT P o T h (vl undef) [(key, .mp (MX P k e (n + 1) (D.put kl (.lit l))))] [key] := by
  intro T' h' γ M w a next Q hT hk hr ht hn
  have hm' : evL T' m = some (.a (.mp key)) := by rw [← hm]; exact evL_congr fun d hd => hT d (by rw [ho]; simp [Op.operands, hd])
  have hx' : evL T' x = some (vl v) := by rw [← hx]; exact evL_congr fun d hd => hT d (by rw [ho]; simp [Op.operands, hd])
  have hy' : evL T' y = some (vl u) := by rw [← hy]; exact evL_congr fun d hd => hT d (by rw [ho]; simp [Op.operands, hd])
  obtain ⟨_, b, k1, k2⟩ := evL_ok ht hm'
  have k3 := lit_inv (evL_ok ht hx')
  have k4 := lit_inv (evL_ok ht hy')
  have hkey := (hk key (by simp)).trans hh
  obtain ⟨b', ob, q1, q2, q3, es, clock, rfl⟩ := hr.ent key _ hkey
  rw [k1] at q1; injection q1 with q1; injection q1 with q1; subst q1
  rw [hok.hφ] at q3
  obtain ⟨w', hrun, hown, hg⟩ := (q3.owns q2).update hok.hK hok.ht hok.hn hok.hk hok.hx
  have hMb : ∀ i, M b i := fun i => hr.own key b i (by unfold Owns; rw [hkey]; simp [k1, blk])
  have hlt : b < w.heap.size := (Array.getElem?_eq_some_iff.1 q2).1
  obtain ⟨ob', hb'⟩ : ∃ ob', w'.heap[b]? = some ob' := by obtain ⟨es, cl, h1, _⟩ := hown; exact ⟨_, h1⟩
  obtain ⟨p1, p2⟩ := MX.of hb' hown
  obtain ⟨S, hS⟩ : ∃ S, S = over [(key, Ent.mp (MX P k e (n + 1) (D.put kl (.lit l))))] h' := ⟨_, rfl⟩
  have hSn : S key = some (.mp (MX P k e (n + 1) (D.put kl (.lit l)))) := by rw [hS, over_same]
  have hSo : ∀ key', key' ≠ key → S key' = h' key' := fun key' e1 => by rw [hS, over_other e1]
  have hot : ∀ b', b' < w.heap.size → b' ≠ b → w'.heap[b']? = w.heap[b']? := fun b' hb hne => hg.block b' hb (by simpa using hne)
  have hown' : ∀ key' b' i, Owns γ S key' b' i ↔ Owns γ h' key' b' i := by
    intro key' b' i
    by_cases e1 : key' = key
    · subst e1; unfold Owns; rw [hSn, hkey]
    · exact owns_congr rfl (hSo _ e1)
  have s : Stp γ h' M w γ S M w' := by
    refine ⟨hg.os, hg.tape, hg.output, hg.size, fun b' i u q => ?_, fun b' hb hno => ?_, fun b' i q _ => q, fun key' b' i q _ => ⟨key', (hown' _ _ _).1 q⟩, fun key' e1 he => ?_⟩
    · have hne : b' ≠ b := fun e => q.1 (e ▸ hMb i)
      exact ⟨q.1, by rw [← q.2]; exact World.cell?_of_block (a := ⟨b', i, none⟩) (hot b' (World.block_lt_of_cell? _ _ q.2) hne)⟩
    · refine hot b' hb fun e => hno key 0 ?_
      subst e; unfold Owns; rw [hkey]; simp [k1, blk]
    · by_cases e2 : key' = key
      · subst e2
        rw [hkey] at he; injection he with he; subst he
        exact ⟨_, hSn, trivial, .inl rfl⟩
      · exact ⟨e1, by rw [hSo _ e2]; exact he, Goes.refl _, .inl rfl⟩
  have hlv : ∀ k0, live (S k0) = true → live (h' k0) = true := by
    intro k0 hl
    by_cases e1 : k0 = key
    · subst e1; rw [hkey]; rfl
    · rwa [hSo _ e1] at hl
  have r : Rel γ S M w' := by
    refine ⟨fun key' e1 he => ?_, fun key' b' i q => hr.own key' b' i ((hown' _ _ _).1 q), fun key1 key2 b' l1 l2 => hr.inj key1 key2 b' (hlv _ l1) (hlv _ l2), fun b' i z hmm => ?_, fun b' i hmm => Nat.lt_of_lt_of_le (hr.dom b' i hmm) hg.size, hr.glb.fx s.fx⟩
    · by_cases e2 : key' = key
      · subst e2
        rw [hSn] at he; injection he with he; subst he
        exact ⟨b, ob', k1, hb', p1, p2⟩
      · rw [hSo _ e2] at he
        refine EntR.stp s (hr.ent key' e1 he) rfl fun hl b' hb => hot b' (blk_lt hr he hl hb) fun e3 => e2 ?_
        exact hr.inj key' key b' (by rw [he]; exact hl) (by rw [hkey]; rfl) hb (by rw [k1, e3]; rfl)
    · by_cases e1 : b' = b
      · subst e1
        obtain ⟨es', cl', rfl⟩ := p2
        simp [World.cell?, hb']
      · rw [World.cell?_of_block (w := w) (a := ⟨b', i, none⟩) (hot b' (hr.dom b' i hmm) e1)]
        exact hr.u32 b' i z hmm
  unfold Oper.wp
  have : (execOp a.eval o).run P w = .ok .skip w' := by simp [execOp, ho, k2, k3, k4, hrun]
  rw [this]
  subst hS
  exact hn undef γ M _ r (.lit _) s
end
end Go.Proofs.YtikglhmabidjoaaGreatDoor.Lf
