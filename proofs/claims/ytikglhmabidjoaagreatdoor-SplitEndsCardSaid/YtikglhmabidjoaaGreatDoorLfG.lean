/- Lifted values: a list of operations in any order that the edges allow. No program in sight. -/
import Derived.Test.YtikglhmabidjoaaGreatDoorLfF
namespace Go.Proofs.YtikglhmabidjoaaGreatDoor.Lf
open Go.RowKit Nt
set_option linter.unusedVariables false
set_option linter.unusedSimpArgs false
def sel {β : Type} : List (List (Nat × β)) → Nat → (Nat → Bool) → List (Nat × β) → List (Nat × β)
  | [], _, _, T => T
  | x :: xs, i, S, T => sel xs (i + 1) S (if S i then x ++ T else T)
theorem look_app_none {β : Type} {x T : List (Nat × β)} {d : Nat} (h : look x d = none) : look (x ++ T) d = look T d := by rw [look_app]; simp [over, h]
theorem look_app_some {β : Type} {x T : List (Nat × β)} {d : Nat} {v : β} (h : look x d = some v) : look (x ++ T) d = some v := by rw [look_app]; simp [over, h]
theorem look_app_congr {β : Type} {x T T' : List (Nat × β)} {d : Nat} (h : look T d = look T' d) : look (x ++ T) d = look (x ++ T') d := by rw [look_app, look_app]; simp [over, h]
theorem sel_agree {β : Type} {d : Nat} {S S' : Nat → Bool} : ∀ (ws : List (List (Nat × β))) (i : Nat) (T T' : List (Nat × β)), (∀ (j : Nat) x, ws[j]? = some x → look x d ≠ none → S (i + j) = S' (i + j)) → look T d = look T' d → look (sel ws i S T) d = look (sel ws i S' T') d
  | [], _, _, _, _, h => h
  | x :: xs, i, T, T', ha, h => by
    simp only [sel]
    refine sel_agree xs (i + 1) _ _ (fun j y hj hy => by rw [show i + 1 + j = i + (j + 1) from by omega]; exact ha (j + 1) y (by simpa using hj) hy) ?_
    by_cases hx : look x d = none
    · split <;> split <;> simp [look_app_none hx, h]
    · have := ha 0 x rfl hx
      simp only [Nat.add_zero] at this
      rw [this]
      split
      · exact look_app_congr h
      · exact h
theorem sel_last {β : Type} {d : Nat} {v : β} {S : Nat → Bool} : ∀ (ws : List (List (Nat × β))) (i k : Nat) (T x : List (Nat × β)), ws[k]? = some x → look x d = some v → S (i + k) = true → (∀ (j : Nat) y, k < j → ws[j]? = some y → S (i + j) = true → look y d = none) → look (sel ws i S T) d = some v
  | [], _, k, _, _, hk, _, _, _ => by simp at hk
  | y :: ys, i, 0, T, x, hk, hx, hs, hl => by
    simp at hk; subst hk
    simp only [sel]
    have hs' : S i = true := by simpa using hs
    rw [hs', if_pos rfl]
    refine (sel_agree (S := S) (S' := fun _ => false) ys (i + 1) _ (y ++ T) (fun j z hj hz => ?_) rfl).trans ?_
    · cases hq : S (i + 1 + j) with
      | false => rfl
      | true => exact absurd (hl (j + 1) z (by omega) (by simpa using hj) (by rw [show i + (j + 1) = i + 1 + j from by omega]; exact hq)) hz
    · have : ∀ (zs : List (List (Nat × β))) (i : Nat) (T : List (Nat × β)), sel zs i (fun _ => false) T = T := by
        intro zs
        induction zs with
        | nil => intros; rfl
        | cons z zs ih => intro i T; simp only [sel]; rw [ih]; simp
      rw [this]
      exact look_app_some hx
  | y :: ys, i, k + 1, T, x, hk, hx, hs, hl => by
    simp only [sel]
    exact sel_last ys (i + 1) k _ x (by simpa using hk) hx (by rw [show i + 1 + k = i + (k + 1) from by omega]; exact hs) fun j z hj hz hq => hl (j + 1) z (by omega) (by simpa using hz) (by rw [show i + (j + 1) = i + 1 + j from by omega]; exact hq)
theorem sel_add {β : Type} {S S' : Nat → Bool} {ws : List (List (Nat × β))} {T x : List (Nat × β)} {k : Nat} (hk : ws[k]? = some x) (hS : ∀ j, j ≠ k → S' j = S j) (hS' : S' k = true) (hl : ∀ (j : Nat) y d, k < j → ws[j]? = some y → S j = true → look x d ≠ none → look y d = none) :
    look (sel ws 0 S' T) = over x (look (sel ws 0 S T)) := by
  funext d
  unfold over
  cases hx : look x d with
  | none =>
    refine sel_agree ws 0 T T (fun j y hj hy => ?_) rfl
    rw [Nat.zero_add]
    refine hS j fun e => ?_
    subst e
    rw [hk] at hj; injection hj with hj; subst hj
    exact hy hx
  | some v =>
    refine sel_last ws 0 k T x hk hx (by simpa using hS') fun j y hj hy hs => hl j y d hj hy ?_ (by rw [hx]; simp)
    rw [Nat.zero_add, hS j (by omega)] at hs
    exact hs
def maskOf (acc : List Nat) : List Edge → Nat
  | [] => 0
  | e :: r => (if Region.binds .any e then 2 ^ e.on ||| acc.getD e.on 0 else 0) ||| maskOf acc r
def masks : List Oper → List Nat → List Nat
  | [], acc => acc
  | o :: r, acc => masks r (acc ++ [maskOf acc o.after.toList])
theorem masks_pre : ∀ (l : List Oper) (acc : List Nat) (i : Nat), i < acc.length → (masks l acc)[i]? = acc[i]?
  | [], _, _, _ => rfl
  | o :: r, acc, i, hi => by
    simp only [masks]
    rw [masks_pre r _ i (by simp; omega), List.getElem?_append_left hi]
theorem masks_at : ∀ (l : List Oper) (acc : List Nat) (i : Nat) (o : Oper), l[i]? = some o → ∃ pre : List Nat, pre.length = acc.length + i ∧ (∀ j, j < pre.length → pre[j]? = (masks l acc)[j]?) ∧ (masks l acc)[acc.length + i]? = some (maskOf pre o.after.toList)
  | [], _, _, _, hi => by simp at hi
  | x :: r, acc, 0, o, hi => by
    simp at hi; subst hi
    refine ⟨acc, rfl, fun j hj => (masks_pre (x :: r) acc j hj).symm, ?_⟩
    simp only [masks]
    rw [masks_pre r _ _ (by simp)]
    simp
  | x :: r, acc, i + 1, o, hi => by
    obtain ⟨pre, h1, h2, h3⟩ := masks_at r (acc ++ [maskOf acc x.after.toList]) i o (by simpa using hi)
    simp only [masks]
    simp only [List.length_append, List.length_singleton] at h1 h3
    exact ⟨pre, by omega, h2, by rw [show acc.length + (i + 1) = acc.length + 1 + i from by omega]; exact h3⟩
theorem maskOf_bit {acc : List Nat} {j : Nat} : ∀ {es : List Edge}, (maskOf acc es).testBit j = true → ∃ e ∈ es, Region.binds .any e = true ∧ (e.on = j ∨ (acc.getD e.on 0).testBit j = true)
  | [], h => by simp [maskOf] at h
  | e :: r, h => by
    simp only [maskOf, Nat.testBit_or, Bool.or_eq_true] at h
    rcases h with h | h
    · split at h
      · rename_i hb
        simp only [Nat.testBit_or, Bool.or_eq_true, Nat.testBit_two_pow, decide_eq_true_eq] at h
        exact ⟨e, by simp, hb, h⟩
      · simp at h
    · obtain ⟨e', h1, h2⟩ := maskOf_bit h
      exact ⟨e', by simp [h1], h2⟩
theorem anc {ops : Array Oper} {S : Nat → Bool} (hcl : ∀ i o, S i = true → ops[i]? = some o → ∀ e ∈ o.after, Region.binds .any e = true → S e.on = true) :
    ∀ (i : Nat) (o : Oper), ops[i]? = some o → (∀ e ∈ o.after, Region.binds .any e = true → S e.on = true) → ∀ j, ((masks ops.toList []).getD i 0).testBit j = true → S j = true := by
  intro i
  induction i using Nat.strongRecOn with
  | _ i ih =>
    intro o ho hr j hj
    obtain ⟨pre, h1, h2, h3⟩ := masks_at ops.toList [] i o (by simpa using ho)
    simp only [List.length_nil, Nat.zero_add] at h1 h3
    rw [List.getD_eq_getElem?_getD, h3] at hj
    simp only [Option.getD_some] at hj
    obtain ⟨e, he, hb, hq⟩ := maskOf_bit hj
    have he' : e ∈ o.after := Array.mem_toList_iff.1 he
    have hSe := hr e he' hb
    rcases hq with rfl | hq
    · exact hSe
    · by_cases hlt : e.on < i
      · rw [List.getD_eq_getElem?_getD, h2 _ (by omega)] at hq
        have hi := (Array.getElem?_eq_some_iff.1 ho).1
        have ho2 : ops[e.on]? = some (ops[e.on]'(by omega)) := Array.getElem?_eq_getElem _
        exact ih e.on hlt _ ho2 (hcl e.on _ hSe ho2) j (by rw [List.getD_eq_getElem?_getD]; exact hq)
      · rw [List.getD_eq_getElem?_getD, List.getElem?_eq_none (by omega)] at hq
        simp at hq
def confT (a b : Ft) : Bool :=
  (match a.dst with
    | some d => b.dst == some d || b.sl.contains d
    | none => false) ||
  (match b.dst with
    | some d => a.sl.contains d
    | none => false) ||
  a.wk.any (fun k => b.wk.contains k || b.rk.contains k) || b.wk.any (fun k => a.rk.contains k)
def noConf (fs : List Ft) (ms : List Nat) : Bool :=
  (List.range fs.length).all fun j => (List.range j).all fun i => match fs[i]?, fs[j]? with
    | some a, some b => !confT a b || (ms.getD j 0).testBit i
    | _, _ => true
def edgesOk (ops : Array Oper) : Bool :=
  (List.range ops.size).all fun i => match ops[i]? with
    | some o => o.after.all fun e => !Region.binds .any e || decide (e.on < i)
    | none => true
theorem noConf_ok {fs : List Ft} {ms : List Nat} (hc : noConf fs ms = true) {i j : Nat} {a b : Ft} (hij : i < j) (ha : fs[i]? = some a) (hb : fs[j]? = some b) (hab : confT a b = true) : (ms.getD j 0).testBit i = true := by
  have hj := (List.getElem?_eq_some_iff.1 hb).1
  have h1 := List.all_eq_true.1 hc j (List.mem_range.2 hj)
  have h2 := List.all_eq_true.1 h1 i (List.mem_range.2 hij)
  rw [ha, hb] at h2
  simpa [hab] using h2
def unl (L : Array Bool) : Nat := L.toList.countP (fun b => !b)
theorem unl_set {L : Array Bool} {i : Nat} (h : L[i]? = some false) : unl (L.setIfInBounds i true) + 1 = unl L := by
  obtain ⟨l⟩ := L
  simp only [unl, List.setIfInBounds_toArray]
  simp only [List.getElem?_toArray] at h
  induction l generalizing i with
  | nil => simp at h
  | cons b l ih =>
    cases i with
    | zero => simp at h; subst h; simp
    | succ i => simp at h; have := ih h; simp only [List.set_cons_succ, List.countP_cons]; omega
theorem look_ne {β : Type} {x : List (Nat × β)} {d : Nat} (h : look x d ≠ none) : (x.map (·.1)).contains d = true := by
  cases hl : look x d with
  | none => exact absurd hl h
  | some v => simp only [List.contains_eq_mem, decide_eq_true_eq]; exact List.mem_map.2 ⟨(d, v), look_mem hl, rfl⟩
theorem wrT_ne {dst : Option Nat} {v : V} {d : Nat} (h : look (wrT dst v) d ≠ none) : dst = some d := by
  cases dst with
  | none => exact absurd rfl h
  | some e =>
    simp only [wrT, look] at h
    split at h
    · rename_i e1; rw [e1]
    · exact absurd rfl h
section
variable {P : Program} {N : Nat} {ops : Array Oper} {γ0 : Gh} {h0 : Hp} {M0 : MS} {w0 : World}
theorem facts_at {recs : List Rec} {T T' : List (Nat × V)} {H H' : List (Nat × Ent)} (f : Facts P N ops recs T H T' H') : ∀ (i k : Nat) (r : Rec), recs[k]? = some r →
    Fact P N ops r (look (sel (recs.map fun r => wrT r.o.dst r.v) i (fun j => decide (j < i + k)) T)) (look (sel (recs.map fun r => r.sets) i (fun j => decide (j < i + k)) H)) := by
  induction f with
  | nil => intro i k r hk; simp at hk
  | cons r0 rs T T' H H' hf _ ih =>
    intro i k r hk
    have hnone : ∀ {β : Type} (zs : List (List (Nat × β))) (i m : Nat) (T : List (Nat × β)), m ≤ i → sel zs i (fun j => decide (j < m)) T = T := by
      intro β zs
      induction zs with
      | nil => intros; rfl
      | cons z zs ih => intro i m T hm; simp only [sel]; rw [if_neg (by simp; omega)]; exact ih _ _ _ (by omega)
    cases k with
    | zero =>
      simp at hk; subst hk
      rw [hnone _ _ _ _ (by omega), hnone _ _ _ _ (by omega)]
      exact hf
    | succ k =>
      have := ih (i + 1) k r (by simpa using hk)
      simp only [List.map_cons, sel]
      rw [if_pos (by simp), if_pos (by simp), show i + (k + 1) = i + 1 + k from by omega]
      exact this
theorem facts_end {recs : List Rec} {T T' : List (Nat × V)} {H H' : List (Nat × Ent)} (f : Facts P N ops recs T H T' H') : ∀ (i : Nat), sel (recs.map fun r => wrT r.o.dst r.v) i (fun _ => true) T = T' ∧ sel (recs.map fun r => r.sets) i (fun _ => true) H = H' := by
  induction f with
  | nil => intro i; exact ⟨rfl, rfl⟩
  | cons r0 rs T T' H H' hf _ ih => intro i; simp only [List.map_cons, sel, if_true]; exact ih (i + 1)
theorem facts_any (hdom : ∀ b i, M0 b i → b < w0.heap.size) {Q : Exit → Act → World → Prop} {recs : List Rec} {T T' : List (Nat × V)} {H H' : List (Nat × Ent)} (f : Facts P N ops recs T H T' H') (hops : recs.map (·.o) = ops.toList)
    (hc : noConf (recs.map (·.ft ops)) (masks ops.toList []) = true) (he : edgesOk ops = true) (hQ : ∀ a' w', SR N γ0 h0 M0 w0 (look T') (look H') a' w' → Q .normal a' w') :
    ∀ (fuel : Nat) (L : Array Bool) (a : Act) (w : World), L.size = ops.size → unl L = fuel → (∀ i o, L.getD i false = true → ops[i]? = some o → ∀ e ∈ o.after, Region.binds .any e = true → L.getD e.on false = true) →
      SR N γ0 h0 M0 w0 (look (sel (recs.map fun r => wrT r.o.dst r.v) 0 (fun j => L.getD j false) T)) (look (sel (recs.map fun r => r.sets) 0 (fun j => L.getD j false) H)) a w → wpAny P .any ops Q fuel L a w := by
  have hrec : ∀ (i : Nat) (o : Oper), ops[i]? = some o → ∃ r : Rec, recs[i]? = some r ∧ r.o = o := by
    intro i o ho
    have h1 : ops.toList[i]? = some o := by simpa using ho
    rw [← hops, List.getElem?_map] at h1
    obtain ⟨r, h2, h3⟩ := Option.map_eq_some_iff.1 h1
    exact ⟨r, h2, h3⟩
  have hrec' : ∀ (i : Nat) (r : Rec), recs[i]? = some r → ops[i]? = some r.o := by
    intro i r hr
    have h1 : ops.toList[i]? = some r.o := by rw [← hops, List.getElem?_map, hr]; rfl
    simpa using h1
  -- all have come up where nothing is ready
  have hdone : ∀ (L : Array Bool), L.size = ops.size → Region.ready .any ops L = [] → ∀ i, i < ops.size → L.getD i false = true := by
    intro L hL hr i
    induction i using Nat.strongRecOn with
    | _ i ih =>
      intro hi
      cases hb : L.getD i false with
      | true => rfl
      | false =>
        exfalso
        have hmem : i ∈ Region.ready .any ops L := by
          refine mem_ready.2 ⟨?_, ops[i], Array.getElem?_eq_getElem hi, fun e hem hbind => ?_⟩
          · have hlt : i < L.size := by omega
            simp only [Array.getD_eq_getD_getElem?, Array.getElem?_eq_getElem hlt, Option.getD_some] at hb ⊢
            exact hb
          · have h1 := List.all_eq_true.1 he i (List.mem_range.2 hi)
            rw [Array.getElem?_eq_getElem hi] at h1
            have h2 := Array.all_eq_true'.1 h1 e hem
            simp only [hbind, Bool.not_true, Bool.false_or, decide_eq_true_eq] at h2
            exact ih e.on h2 (by omega)
        rw [hr] at hmem; cases hmem
  have hfin : ∀ (L : Array Bool) (a : Act) (w : World), L.size = ops.size → Region.ready .any ops L = [] →
      SR N γ0 h0 M0 w0 (look (sel (recs.map fun r => wrT r.o.dst r.v) 0 (fun j => L.getD j false) T)) (look (sel (recs.map fun r => r.sets) 0 (fun j => L.getD j false) H)) a w → Q .normal a w := by
    intro L a w hL hr hS
    have hall := hdone L hL hr
    have hlen : recs.length = ops.size := by rw [← List.length_map (f := (·.o)), hops]; simp
    have e1 : look (sel (recs.map fun r => wrT r.o.dst r.v) 0 (fun j => L.getD j false) T) = look T' := by
      funext d
      rw [← (facts_end f 0).1]
      refine sel_agree _ 0 _ _ (fun j x hj _ => ?_) rfl
      have := (List.getElem?_eq_some_iff.1 hj).1
      rw [Nat.zero_add]; exact hall j (by simp at this; omega)
    have e2 : look (sel (recs.map fun r => r.sets) 0 (fun j => L.getD j false) H) = look H' := by
      funext d
      rw [← (facts_end f 0).2]
      refine sel_agree _ 0 _ _ (fun j x hj _ => ?_) rfl
      have := (List.getElem?_eq_some_iff.1 hj).1
      rw [Nat.zero_add]; exact hall j (by simp at this; omega)
    rw [e1, e2] at hS
    exact hQ a w hS
  intro fuel
  induction fuel with
  | zero =>
    intro L a w hL hu hcl hS
    have hr : Region.ready .any ops L = [] := by
      cases hq : Region.ready .any ops L with
      | nil => rfl
      | cons i r =>
        exfalso
        have hm : i ∈ Region.ready .any ops L := by rw [hq]; simp
        have h1 := (mem_ready.1 hm).1
        have hlt : i < L.size := by
          rcases Nat.lt_or_ge i L.size with h2 | h2
          · exact h2
          · rw [Array.getD_eq_getD_getElem?, Array.getElem?_eq_none h2] at h1; cases h1
        have h3 : L[i]? = some false := by
          rw [Array.getD_eq_getD_getElem?, Array.getElem?_eq_getElem hlt] at h1
          rw [Array.getElem?_eq_getElem hlt]; simpa using h1
        have := unl_set h3; omega
    exact ⟨hr, hfin L a w hL hr hS⟩
  | succ fuel ih =>
    intro L a w hL hu hcl hS
    refine ⟨fun hr => hfin L a w hL hr hS, fun i hm => ?_⟩
    obtain ⟨h1, o, ho, hready⟩ := mem_ready.1 hm
    have hlt : i < L.size := by
      rcases Nat.lt_or_ge i L.size with h2 | h2
      · exact h2
      · rw [Array.getD_eq_getD_getElem?, Array.getElem?_eq_none h2] at h1; cases h1
    have h3 : L[i]? = some false := by
      rw [Array.getD_eq_getD_getElem?, Array.getElem?_eq_getElem hlt] at h1
      rw [Array.getElem?_eq_getElem hlt]; simpa using h1
    have hSi : L.getD i false = false := by rw [Array.getD_eq_getD_getElem?, h3]; rfl
    obtain ⟨r, hr, rfl⟩ := hrec i o ho
    have hfi : (recs.map (·.ft ops))[i]? = some (r.ft ops) := by rw [List.getElem?_map, hr]; rfl
    -- what comes before in the text and meddles has come up
    have hbefore : ∀ (j : Nat) (r' : Rec), j < i → recs[j]? = some r' → confT (r'.ft ops) (r.ft ops) = true → L.getD j false = true := by
      intro j r' hj hr' hcf
      have hb := noConf_ok hc hj (by rw [List.getElem?_map, hr']; rfl) hfi hcf
      exact anc (S := fun j => L.getD j false) hcl i _ ho hready j hb
    have hafter : ∀ (j : Nat) (r' : Rec), i < j → recs[j]? = some r' → confT (r.ft ops) (r'.ft ops) = true → L.getD j false = false := by
      intro j r' hj hr' hcf
      cases hq : L.getD j false with
      | false => rfl
      | true =>
        exfalso
        have hb := noConf_ok hc hj hfi (by rw [List.getElem?_map, hr']; rfl) hcf
        have := anc (S := fun j => L.getD j false) hcl j _ (hrec' j r' hr') (fun e hem hbind => hcl j _ hq (hrec' j r' hr') e hem hbind) i hb
        simp only [hSi] at this; cases this
    have hagree : ∀ (j : Nat) (r' : Rec), recs[j]? = some r' → (j < i → confT (r'.ft ops) (r.ft ops) = true) → (i < j → confT (r.ft ops) (r'.ft ops) = true) → L.getD (0 + j) false = decide (0 + j < 0 + i) := by
      intro j r' hr' c1 c2
      rw [Nat.zero_add, Nat.zero_add]
      rcases Nat.lt_trichotomy j i with hj | hj | hj
      · rw [hbefore j r' hj hr' (c1 hj)]; simp [hj]
      · subst hj; rw [hSi]; simp
      · rw [hafter j r' hj hr' (c2 hj)]; simp; omega
    have fi := facts_at f 0 i r hr
    refine fact_op hdom fi (fun d hd => ?_) (fun k hk => ?_) hS ho fun a' w' hS' => ih _ a' w' (by simp [hL]) (by have := unl_set h3; omega) ?_ ?_
    · refine sel_agree _ 0 _ _ (fun j x hj hx => ?_) rfl
      rw [List.getElem?_map] at hj
      obtain ⟨r', hr', rfl⟩ := Option.map_eq_some_iff.1 hj
      have hdst := wrT_ne hx
      refine hagree j r' hr' (fun _ => ?_) (fun _ => ?_)
      · simp [confT, Rec.ft, hdst, hd]
      · simp [confT, Rec.ft, hdst, hd]
    · refine sel_agree _ 0 _ _ (fun j x hj hx => ?_) rfl
      rw [List.getElem?_map] at hj
      obtain ⟨r', hr', rfl⟩ := Option.map_eq_some_iff.1 hj
      have hw := look_ne hx
      simp only [List.contains_eq_mem, decide_eq_true_eq] at hw
      refine hagree j r' hr' (fun _ => ?_) (fun _ => ?_)
      · simp only [confT, Rec.ft, Bool.or_eq_true, List.any_eq_true]
        exact .inl (.inr ⟨k, hw, by simp [hk]⟩)
      · simp only [confT, Rec.ft, Bool.or_eq_true, List.any_eq_true]
        exact .inr ⟨k, hw, by simpa using hk⟩
    · intro j o' hj ho' e hem hbind
      by_cases hji : j = i
      · subst hji
        rw [ho] at ho'; injection ho' with ho'; subst ho'
        have := hready e hem hbind
        rw [Array.getD_eq_getD_getElem?] at this ⊢
        by_cases hei : e.on = j
        · subst hei; simp [hlt]
        · rw [Array.getElem?_setIfInBounds_ne (Ne.symm hei)]; exact this
      · have hj' : L.getD j false = true := by
          rw [Array.getD_eq_getD_getElem?] at hj ⊢
          rwa [Array.getElem?_setIfInBounds_ne (Ne.symm hji)] at hj
        have := hcl j o' hj' ho' e hem hbind
        rw [Array.getD_eq_getD_getElem?] at this ⊢
        by_cases hei : e.on = i
        · rw [hei]; simp [hlt]
        · rw [Array.getElem?_setIfInBounds_ne (Ne.symm hei)]; exact this
    · have hne : ∀ j, j ≠ i → (L.setIfInBounds i true).getD j false = L.getD j false := by
        intro j hj
        rw [Array.getD_eq_getD_getElem?, Array.getD_eq_getD_getElem?, Array.getElem?_setIfInBounds_ne (Ne.symm hj)]
      have hself : (L.setIfInBounds i true).getD i false = true := by simp [Array.getD_eq_getD_getElem?, hlt]
      rw [sel_add (k := i) (x := wrT r.o.dst r.v) (by rw [List.getElem?_map, hr]; rfl) hne hself, sel_add (k := i) (x := r.sets) (by rw [List.getElem?_map, hr]; rfl) hne hself]
      · exact hS'
      · intro j y d hj hy hs hx
        rw [List.getElem?_map] at hy
        obtain ⟨r', hr', rfl⟩ := Option.map_eq_some_iff.1 hy
        cases hq : look r'.sets d with
        | none => rfl
        | some v =>
          exfalso
          have hw := look_ne hx
          have hw' := look_ne (x := r'.sets) (d := d) (by rw [hq]; simp)
          simp only [List.contains_eq_mem, decide_eq_true_eq] at hw hw'
          have := hafter j r' hj hr' (by
            simp only [confT, Rec.ft, Bool.or_eq_true, List.any_eq_true]
            exact .inl (.inr ⟨d, hw, by simp only [List.contains_eq_mem, Bool.or_eq_true, decide_eq_true_eq]; exact .inl hw'⟩))
          rw [hs] at this; cases this
      · intro j y d hj hy hs hx
        rw [List.getElem?_map] at hy
        obtain ⟨r', hr', rfl⟩ := Option.map_eq_some_iff.1 hy
        cases hq : look (wrT r'.o.dst r'.v) d with
        | none => rfl
        | some v =>
          exfalso
          have hw := wrT_ne hx
          have hw' := wrT_ne (dst := r'.o.dst) (v := r'.v) (d := d) (by rw [hq]; simp)
          have := hafter j r' hj hr' (by simp [confT, Rec.ft, hw, hw'])
          rw [hs] at this; cases this
end
end Go.Proofs.YtikglhmabidjoaaGreatDoor.Lf
