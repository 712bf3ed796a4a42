/- Lifted values: the operations that only yield a value. No program in sight. -/
import Derived.Test.YtikglhmabidjoaaGreatDoorLfA
namespace Go.Proofs.YtikglhmabidjoaaGreatDoor.Lf
open Go.RowKit Nt
set_option linter.unusedVariables false
set_option linter.unusedSimpArgs false
abbrev vl (v : Value) : V := .a (.d (.lit v))
def cst : Value → V
  | .agg cs => .agg (cs.toList.map fun c => .d (.lit c))
  | v => .a (.d (.lit v))
def evL (T : Nat → Option V) : Operand → Option V
  | .tmp t => T t
  | .const v => some (cst v)
  | .func f => some (.a (.fn (.func f) [] []))
  | .global g => (GT g).map fun row => .a (.elt row 0)
def TR (γ : Gh) (h : Hp) (M : MS) (w : World) (T : Nat → Option V) (a : Act) : Prop := Glb M w ∧ ∀ d v, T d = some v → ∃ r, a.tmps[d]? = some r ∧ RdV γ h M w v r
section
variable {γ : Gh} {h : Hp} {M : MS} {w : World} {T : Nat → Option V} {a : Act} {P : Program}
theorem lits_ok : ∀ cs : List Value, All2 (RdA γ h M w) (cs.map fun c => .d (.lit c)) cs
  | [] => trivial
  | c :: cs => ⟨.lit c, lits_ok cs⟩
theorem cst_ok (v : Value) : RdV γ h M w (cst v) v := by
  cases v <;> first | exact RdD.lit _ | skip
  rename_i cs
  exact ⟨cs.toList, by simp, lits_ok _⟩
theorem evL_ok (ht : TR γ h M w T a) {x : Operand} {v : V} (hx : evL T x = some v) : RdV γ h M w v (a.eval x) := by
  cases x with
  | tmp t =>
    obtain ⟨r, h1, h2⟩ := ht.2 t v hx
    simp only [Act.eval, Array.getD_eq_getD_getElem?, h1]
    exact h2
  | const c => injection hx with hx; subst hx; exact cst_ok c
  | func f => injection hx with hx; subst hx; exact ⟨[], [], rfl, trivial, trivial⟩
  | global g =>
    obtain ⟨row, h1, rfl⟩ := Option.map_eq_some_iff.1 hx
    refine ⟨g, 0, fun j => (w.cell? ⟨g, j, none⟩).getD undef, rfl, fun j d hd => ?_⟩
    obtain ⟨v, h2, h3⟩ := ht.1 g row h1 j d hd
    simp only [Nat.zero_add, h2.2, Option.getD_some]
    exact ⟨h2, h3⟩
def aggT (P : Program) (t : TypeId) : Option Bool :=
  match P.underlying t with
  | some (.struct _) => some true
  | some (.array _ _) => some true
  | some _ => some false
  | none => none
def sizeT (P : Program) (t : TypeId) : Option Nat := (P.info? t).map (·.size)
def elemT (P : Program) (t : TypeId) : Option (TypeId × Nat) :=
  match P.underlying t with
  | some (.slice e) => (sizeT P e).map fun s => (e, s)
  | _ => none
def arrT (P : Program) (t : TypeId) : Option (Nat × TypeId × Nat) :=
  match P.underlying t with
  | some (.array n e) => (sizeT P e).map fun s => (n, e, s)
  | _ => none
def fieldT (P : Program) (t : TypeId) (f : Nat) : Option (Nat × TypeId × Nat) :=
  match P.underlying t with
  | some (.struct fs) => match fs[f]? with
    | some d => (sizeT P d.type).map fun s => (d.offset, d.type, s)
    | none => none
  | _ => none
def intT (P : Program) (t : TypeId) : Option IntKind :=
  match P.underlying t with
  | some (.int k) => some k
  | _ => none
theorem aggT_run {t : TypeId} {b : Bool} (ht : aggT P t = some b) : (isAgg t).run P w = .ok b w := by
  unfold aggT at ht
  cases hu : P.underlying t with
  | none => rw [hu] at ht; cases ht
  | some d => rw [hu] at ht; cases d <;> simp_all [isAgg, run_underlying hu]
theorem sizeT_run {t : TypeId} {n : Nat} (ht : sizeT P t = some n) : (sizeOf t).run P w = .ok n w := by
  unfold sizeT at ht
  cases hu : P.info? t with
  | none => rw [hu] at ht; cases ht
  | some d => rw [hu] at ht; simp at ht; simp [sizeOf, typeInfo, hu, ht]
def oneL (ag : Bool) (ys : List A) (s : Nat) : Option V :=
  if ys.length = s then (if ag then some (.agg ys) else match ys with
    | [y] => some (.a y)
    | _ => none) else none
def boolT (P : Program) (t : TypeId) : Bool :=
  match P.underlying t with
  | some .bool => true
  | _ => false
def binL (P : Program) (t : TypeId) (op : BinOp) : Value → Value → Option Value
  | .int k a, .int k' b =>
    match op with
    | .shl => if b < 0 then none else some (.int k (k.wrap (a * 2 ^ (min b.toNat k.bits))))
    | .shr => if b < 0 then none else some (.int k (a.fdiv (2 ^ (min b.toNat k.bits))))
    | op => if k = k' then match op with
      | .add => some (.int k (k.wrap (a + b)))
      | .sub => some (.int k (k.wrap (a - b)))
      | .mul => some (.int k (k.wrap (a * b)))
      | .quo => if b = 0 then none else some (.int k (k.wrap (a.tdiv b)))
      | .rem => if b = 0 then none else some (.int k (a.tmod b))
      | .eql => some (.bool (a == b))
      | .neq => some (.bool (a != b))
      | .lss => some (.bool (decide (a < b)))
      | .leq => some (.bool (decide (a ≤ b)))
      | .gtr => some (.bool (decide (a > b)))
      | .geq => some (.bool (decide (a ≥ b)))
      | _ => none else none
  | .bool a, .bool b => if boolT P t then match op with
    | .eql => some (.bool (a == b))
    | .neq => some (.bool (a != b))
    | _ => none else none
  | .slice a _ _, .slice none 0 0 => if (elemT P t).isSome then match op with
    | .eql => some (.bool a.isNone)
    | .neq => some (.bool a.isSome)
    | _ => none else none
  | _, _ => none
theorem boolT_ok {t : TypeId} (h : boolT P t = true) : P.underlying t = some .bool := by
  unfold boolT at h
  split at h <;> first | assumption | cases h
theorem eq_nil_run {t e : TypeId} {a : Option Addr} {n c : Nat} (h : P.underlying t = some (.slice e)) : (Op.equal t (.slice a n c) (.slice none 0 0)).run P w = .ok a.isNone w := by
  have : ∀ d : Nat, (Op.equalIn (d + 1) t (.slice a n c) (.slice none 0 0)).run P w = .ok a.isNone w := fun d => by cases a <;> simp [Op.equalIn, run_underlying h]
  exact this 9999
theorem binL_run {op : BinOp} {u v r : Value} {t : TypeId} (hb : binL P t op u v = some r) : (binOp op t u v).run P w = .ok r w := by
  cases u <;> cases v <;> try (simp [binL] at hb; done)
  · simp only [binL] at hb
    split at hb
    · rename_i hbt
      have := fun a b => run_equal_bool (P := P) w t a b (boolT_ok hbt)
      rename_i p q
      cases op <;> simp at hb <;> subst hb <;> simp [binOp, this] <;> cases p <;> cases q <;> rfl
    · cases hb
  · rename_i k a k' b
    by_cases hk : k = k'
    · subst hk
      cases op <;> simp only [binL] at hb <;> (try split at hb) <;> simp_all [binOp, Op.intArith, Op.intCmp, Op.intDiv, Op.shift] <;> omega
    · cases op <;> simp only [binL] at hb <;> (try split at hb) <;> simp_all [binOp, Op.shift] <;> omega
  · rename_i ad n c ad' n' c'
    cases ad' with
    | some q => simp [binL] at hb
    | none =>
      rcases n' with _ | n' <;> rcases c' with _ | c' <;> try (simp [binL] at hb; done)
      simp only [binL] at hb
      split at hb
      · rename_i he
        unfold elemT at he
        split at he
        · rename_i e hu
          have hq := eq_nil_run (P := P) (w := w) (a := ad) (n := n) (c := c) hu
          cases op <;> simp at hb <;> subst hb
          · simp [binOp, hq]
          · cases ad <;> simp [binOp, hq]
        · cases he
      · cases hb
def unL : UnOp → Value → Option Value
  | .neg, .int k n => some (.int k (k.wrap (0 - n)))
  | .not, .bool b => some (.bool (!b))
  | _, _ => none
theorem unL_run {op : UnOp} {u r : Value} (hb : unL op u = some r) : (Op.unary op u).run P w = .ok r w := by
  unfold unL at hb
  split at hb <;> first | (injection hb with hb; subst hb; simp [Op.unary, Op.intArith]; done) | cases hb
def oneV : Value → Bool
  | .agg _ => false
  | .tuple _ => false
  | _ => true
def plainV : Value → Bool
  | .agg _ => false
  | .tuple _ => false
  | .int .u32 _ => false
  | _ => true
def oneA : A → Bool
  | .d (.lit v) => oneV v
  | _ => true
def plainA : A → Bool
  | .d (.lit v) => plainV v
  | _ => true
def cellsV : V → Option (List A)
  | .a x => if oneA x then some [x] else none
  | .agg xs => some xs
  | .tup _ => none
theorem lit_inv {v r : Value} (hx : RdD M w (.lit v) r) : r = v := by cases hx; rfl
theorem rdD_slice {x : D} {v : Value} (hx : RdD M w x v) : (∃ u, x = .lit u) ∨ ∃ a n c, v = .slice a n c := by
  cases hx with
  | lit v => exact .inl ⟨_, rfl⟩
  | lm xs v hs _ => obtain ⟨a, n, c, rfl, _⟩ := hs; exact .inr ⟨_, _, _, rfl⟩
  | sl => exact .inr ⟨_, _, _, rfl⟩
theorem oneA_cells {x : A} {v : Value} (hx : RdA γ h M w x v) (ho : oneA x = true) : v.cells = #[v] := by
  cases x with
  | d x =>
    rcases rdD_slice hx with ⟨u, rfl⟩ | ⟨_, _, _, rfl⟩
    · cases hx; cases v <;> first | rfl | cases ho
    · rfl
  | ptr => obtain ⟨_, g, _, rfl⟩ := hx; rfl
  | own =>
    rcases rdD_slice hx.1 with ⟨u, e⟩ | ⟨_, _, _, rfl⟩
    · cases e
    · rfl
  | elt => obtain ⟨_, _, _, rfl, _⟩ := hx; rfl
  | fn => obtain ⟨_, _, rfl, _⟩ := hx; rfl
  | tab => obtain ⟨_, ⟨_, _, rfl⟩, _⟩ := hx; rfl
  | mp => obtain ⟨_, _, _, rfl⟩ := hx; rfl
theorem cellsV_ok {v : V} {r : Value} (hv : RdV γ h M w v r) {xs : List A} (hc : cellsV v = some xs) : ∃ vs : List Value, r.cells = vs.toArray ∧ All2 (RdA γ h M w) xs vs := by
  cases v with
  | a x =>
    simp only [cellsV] at hc
    split at hc
    · rename_i ho
      injection hc with hc; subst hc
      exact ⟨[r], oneA_cells hv ho, hv, trivial⟩
    · cases hc
  | agg ys => injection hc with hc; subst hc; obtain ⟨vs, rfl, k⟩ := hv; exact ⟨vs, rfl, k⟩
  | tup _ => cases hc
theorem oneL_ok {ag : Bool} {ys : List A} {s : Nat} {v : V} (ho : oneL ag ys s = some v) {vs : List Value} (k : All2 (RdA γ h M w) ys vs) :
    vs.length = s ∧ RdV γ h M w v (if ag then .agg vs.toArray else vs.headD undef) := by
  unfold oneL at ho
  split at ho
  · rename_i hl
    refine ⟨by rw [← hl]; exact k.len.symm, ?_⟩
    cases ag
    · simp at ho
      split at ho
      · rename_i y
        injection ho with ho; subst ho
        cases vs with
        | nil => exact k.elim
        | cons v vs => exact k.1
      · cases ho
    · simp at ho; subst ho; exact ⟨vs, rfl, k⟩
  · cases ho
theorem oneL_one {ys : List A} {s : Nat} {v : V} (ho : oneL false ys s = some v) : s = 1 := by
  unfold oneL at ho
  split at ho
  · rename_i hl
    simp at ho
    split at ho
    · rw [← hl]; rfl
    · cases ho
  · cases ho
def toB : A → Option BA
  | .d x => some (.d x)
  | .ptr k o => some (.ptr k o)
  | .own _ k xs => some (.d (.sl k xs))
  | _ => none
def vToB (ev : Operand → Option V) (x : Operand) : Option BA :=
  match ev x with
  | some (.a y) => toB y
  | _ => none
theorem toB_ok {x : A} {b : BA} {v : Value} (hx : RdA γ h M w x v) (hb : toB x = some b) : RdB γ h M w b v := by
  cases x <;> simp [toB] at hb <;> subst hb
  · exact hx
  · exact hx
  · exact hx.1
def mapB (ev : Operand → Option V) : List Operand → Option (List BA)
  | [] => some []
  | x :: r => match vToB ev x, mapB ev r with
    | some b, some bs => some (b :: bs)
    | _, _ => none
def slOf : V → Option (Nat × List (List D))
  | .a (.d (.sl k xs)) => some (k, xs)
  | .a (.own _ k xs) => some (k, xs)
  | _ => none
theorem slOf_ok {v : V} {r : Value} (hv : RdV γ h M w v r) {k : Nat} {xs : List (List D)} (hs : slOf v = some (k, xs)) : RdD M w (.sl k xs) r := by
  unfold slOf at hs
  split at hs
  · injection hs with hs; injection hs with h1 h2; subst h1 h2; exact hv
  · injection hs with hs; injection hs with h1 h2; subst h1 h2; exact hv.1
  · cases hs
def natI (v : Option V) : Option Nat :=
  match v with
  | some (.a (.d (.lit (.int _ n)))) => if 0 ≤ n then some n.toNat else none
  | _ => none
theorem natI_ok {x : Operand} (ht : TR γ h M w T a) {n : Nat} (hx : natI (evL T x) = some n) : ∃ k, a.eval x = .int k (n : Int) := by
  unfold natI at hx
  split at hx
  · rename_i k m e
    split at hx
    · rename_i h0
      injection hx with hx
      exact ⟨k, by rw [lit_inv (evL_ok ht e), ← hx, Int.toNat_of_nonneg h0]⟩
    · cases hx
  · cases hx
def natO (ev : Operand → Option V) (d : Nat) : Option Operand → Option Nat
  | none => some d
  | some x => natI (ev x)
inductive K where
  | raw
  | nat
  | sl (e : TypeId) (k : Nat)
def kindsT (P : Program) : Nat → TypeId → List K
  | 0, _ => []
  | f + 1, t => match P.underlying t with
    | some (.struct fs) => fs.toList.flatMap fun d => kindsT P f d.type
    | some (.array n e) => (List.replicate n (kindsT P f e)).flatten
    | some (.slice e) => match P.underlying e with
      | some (.int .u32) => [.nat]
      | _ => [.sl e ((sizeT P e).getD 0)]
    | some _ => [.raw]
    | none => []
def zb : K → Value → A
  | .nat, .slice none 0 0 => .d (.nat 0)
  | .sl _ k, .slice none 0 0 => .d (.sl k [])
  | _, v => .d (.lit v)
def zv : K → Value → A
  | .nat, .slice none 0 0 => .d (.nat 0)
  | _, v => .d (.lit v)
def zq (t : TypeId) (k : K) (v : Value) : A := match ZL t with
  | true => zv k v
  | false => zb k v
def zipK (f : K → Value → A) : List K → List Value → List A
  | k :: ks, v :: vs => f k v :: zipK f ks vs
  | [], v :: vs => .d (.lit v) :: zipK f [] vs
  | _, [] => []
def zeroT (P : Program) (f : K → Value → A) (t : TypeId) : Option (List A) :=
  match P.info? t with
  | some i => match i.zero with
    | some z => some (zipK f (kindsT P 9 t) z.cells.toList)
    | none => none
  | none => none
theorem nat0_ok : RdD M w (.nat 0) (.slice none 0 0) := .lm _ _ (by simpa [limbs] using Sl.nil w) (fun b o l c e => by injection e with e; cases e)
theorem nil_ok (k : Nat) : RdD M w (.sl k []) (.slice none 0 0) :=
  .sl k [] none 0 (fun _ _ => .bool true) (Nat.le_refl _) (by simp) (fun h => absurd h (by simp)) (fun i row hi => by simp at hi) (fun _ _ => rfl) (fun i row j d hi => by simp at hi)
theorem zb_ok (k : K) (v : Value) : RdA γ h M w (zb k v) v := by
  unfold zb
  split
  · exact nat0_ok
  · exact nil_ok _
  · exact .lit _
theorem zv_ok (k : K) (v : Value) : RdA γ h M w (zv k v) v := by
  unfold zv
  split
  · exact nat0_ok
  · exact .lit _
theorem zq_ok (t : TypeId) (k : K) (v : Value) : RdA γ h M w (zq t k v) v := by
  unfold zq
  split
  · exact zv_ok k v
  · exact zb_ok k v
theorem zipK_ok {f : K → Value → A} (hf : ∀ k v, RdA γ h M w (f k v) v) : ∀ (ks : List K) (vs : List Value), All2 (RdA γ h M w) (zipK f ks vs) vs
  | k :: ks, v :: vs => ⟨hf k v, zipK_ok hf ks vs⟩
  | [], v :: vs => ⟨.lit v, zipK_ok hf [] vs⟩
  | [], [] => trivial
  | _ :: _, [] => trivial
theorem zeroT_ok {f : K → Value → A} (hf : ∀ k v, RdA γ h M w (f k v) v) {t : TypeId} {zs : List A} (hz : zeroT P f t = some zs) :
    ∃ i z, P.info? t = some i ∧ i.zero = some z ∧ All2 (RdA γ h M w) zs z.cells.toList := by
  unfold zeroT at hz
  split at hz
  · rename_i i hi
    split at hz
    · rename_i z h2
      injection hz with hz; subst hz
      exact ⟨i, z, hi, h2, zipK_ok hf _ _⟩
    · cases hz
  · cases hz
def placesT (P : Program) (t : TypeId) : Option (List (Nat × Nat)) :=
  match P.underlying t with
  | some (.struct fs) => fs.toList.mapM fun f => (P.info? f.type).map fun i => (f.offset, i.size)
  | _ => none
def placeT (P : Program) (t : TypeId) : Option (Nat → Option (Nat × Nat)) :=
  match arrT P t with
  | some (n, _, s) => some fun i => some (i * s, s)
  | none => match placesT P t with
    | some ps => some fun i => ps[i]?
    | none => none
def fillL (place : Nat → Option (Nat × Nat)) (ev : Operand → Option V) : List (Nat × Operand) → List A → Option (List A)
  | [], cells => some cells
  | (i, x) :: r, cells => match place i, (ev x).bind cellsV with
    | some (off, s), some ys => if ys.length = s ∧ off + s ≤ cells.length then fillL place ev r (cells.take off ++ ys ++ cells.drop (off + s)) else none
    | _, _ => none
def lenL (P : Program) (t : TypeId) : V → Option Int
  | .a (.d (.sl _ xs)) => if (elemT P t).isSome then some (xs.length : Int) else none
  | .a (.own _ _ xs) => if (elemT P t).isSome then some (xs.length : Int) else none
  | .a (.d (.lm xs)) => if (elemT P t).isSome then some (xs.length : Int) else none
  | .a (.d (.lit (.slice _ n _))) => if (elemT P t).isSome then some (n : Int) else none
  | .a (.tab _ n) => if (elemT P t).isSome then some (n : Int) else none
  | _ => none
def partL (P : Program) (t : TypeId) (cs : List A) (off s : Nat) : Option V :=
  match aggT P t with
  | some ag => oneL ag ((cs.drop off).take s) s
  | none => none
def pureL (P : Program) (ev : Operand → Option V) (o : Oper) : Option V :=
  match o.op with
  | .move x => ev x
  | .assign x => ev x
  | .pick c a b => match ev c with
    | some (.a (.d (.lit (.bool b')))) => if b' then ev a else ev b
    | _ => none
  | .binOp op t x y _ => match ev x, ev y with
    | some (.a (.d (.lit u))), some (.a (.d (.lit v))) => (binL P t op u v).map vl
    | _, _ => none
  | .unOp op _ x => match ev x with
    | some (.a (.d (.lit u))) => (unL op u).map vl
    | _ => none
  | .convert src dst x => match ev x, intT P src, intT P dst with
    | some (.a (.d (.lit (.int _ n)))), some _, some k => some (vl (.int k (k.wrap n)))
    | _, _, _ => none
  | .fieldAddr t x f => match ev x, fieldT P t f with
    | some (.a (.ptr key off)), some (o, _, s) => if s = 0 then none else some (.a (.ptr key (off + o)))
    | some (.a (.elt row off)), some (o, _, s) => if s = 0 then none else some (.a (.elt row (off + o)))
    | _, _ => none
  | .field t x f => match ev x, fieldT P t f with
    | some (.agg cs), some (o, u, s) => partL P u cs o s
    | _, _ => none
  | .indexAddr t x i => match ev x, natI (ev i) with
    | some vx, some n => match slOf vx, elemT P t with
      | some (k, xs), some (_, s) => if k = s then (xs[n]?).map fun row => .a (.elt row 0) else none
      | _, _ => match vx, arrT P t with
        | .a (.ptr key off), some (len, _, s) => if n < len then some (.a (.ptr key (off + n * s))) else none
        | .a (.elt row off), some (len, _, s) => if n < len then some (.a (.elt row (off + n * s))) else none
        | _, _ => none
    | _, _ => none
  | .index t x i => match ev x, natI (ev i), arrT P t with
    | some (.agg cs), some n, some (len, u, s) => if n < len then partL P u cs (n * s) s else none
    | _, _, _ => none
  | .extract x i => match ev x with
    | some (.tup ws) => match ws[i]? with
      | some (.s y) => some (.a y)
      | some (.g ys) => some (.agg ys)
      | none => none
    | _ => none
  | .nilCheck x => match ev x with
    | some (.a (.ptr key off)) => some (.a (.ptr key off))
    | some (.a (.elt row off)) => some (.a (.elt row off))
    | some (.a (.fn (.func f) first caps)) => some (.a (.fn (.func f) first caps))
    | _ => none
  | .makeFunc fn first caps => match mapB ev first.toList, mapB ev caps.toList with
    | some xs, some ys => some (.a (.fn fn xs ys))
    | _, _ => none
  | .build t parts => match zeroT P (zq t) t, placeT P t with
    | some zs, some pl => (fillL pl ev parts.toList zs).map .agg
    | _, _ => none
  | .slice t x lo hi mx => match (ev x).bind slOf, elemT P t with
    | some (k, xs), some (_, s) =>
      match natO ev 0 lo, natO ev xs.length hi, natO ev xs.length mx with
      | some l, some u, some m => if k = s ∧ l ≤ u ∧ u ≤ m ∧ m ≤ xs.length ∧ (mx.isSome = true → hi.isSome = true) then some (.a (.d (.sl k ((xs.take u).drop l)))) else none
      | _, _, _ => none
    | _, _ => none
  | .call { callee := .builtin .len, args := ⟨[x]⟩, argTypes := ⟨[t]⟩ } => match ev x with
    | some v => (lenL P t v).map fun n => vl (.int .i64 n)
    | none => none
  | _ => none
theorem partL_ok {t : TypeId} {cs : List A} {vs : List Value} {off s : Nat} {v : V} (hp : partL P t cs off s = some v) (hs : sizeT P t = some s) (k : All2 (RdA γ h M w) cs vs) :
    ∃ r, (part t vs.toArray off).run P w = .ok r w ∧ RdV γ h M w v r := by
  unfold partL at hp
  split at hp
  · rename_i ag hag
    have k2 := All2.take s (All2.drop off k)
    obtain ⟨h1, h2⟩ := oneL_ok hp k2
    refine ⟨_, ?_, h2⟩
    unfold part
    cases ag
    · simp only [Sem.run_bind, aggT_run hag, Result.andThen_ok]
      have hs1 := oneL_one hp
      subst hs1
      have hlt : off < vs.length := by
        have := h1
        simp at this; omega
      have e : (vs.drop off).take 1 = [vs[off]] := by rw [List.drop_eq_getElem_cons hlt, List.take_succ_cons, List.take_zero]
      simp [hlt, e]
    · simp only [Sem.run_bind, aggT_run hag, Result.andThen_ok, sizeT_run hs]
      simp [sizeT_run hs]
  · cases hp
theorem mapB_ok (ht : TR γ h M w T a) : ∀ {xs : List Operand} {bs : List BA}, mapB (evL T) xs = some bs → All2 (RdB γ h M w) bs (xs.map a.eval)
  | [], bs, hb => by simp [mapB] at hb; subst hb; trivial
  | x :: r, bs, hb => by
    simp only [mapB] at hb
    split at hb
    · rename_i b bs' h1 h2
      injection hb with hb; subst hb
      refine ⟨?_, mapB_ok ht h2⟩
      unfold vToB at h1
      split at h1
      · rename_i y e; exact toB_ok (evL_ok ht e) h1
      · cases h1
    · cases hb
theorem foldl_fill (off : Nat) : ∀ (ys : List Value) (j : Nat) (cs : List Value), off + j + ys.length ≤ cs.length →
    (ys.zipIdx j).foldl (fun (c : Array Value) (p : Value × Nat) => c.setIfInBounds (off + p.2) p.1) cs.toArray = (cs.take (off + j) ++ ys ++ cs.drop (off + j + ys.length)).toArray
  | [], j, cs, _ => by simp
  | y :: ys, j, cs, hl => by
    simp only [List.length_cons] at hl
    simp only [List.zipIdx_cons, List.foldl_cons, List.setIfInBounds_toArray]
    rw [foldl_fill off ys (j + 1) (cs.set (off + j) y) (by simp; omega)]
    congr 1
    have h1 : (cs.set (off + j) y).take (off + (j + 1)) = cs.take (off + j) ++ [y] := by
      rw [show off + (j + 1) = (off + j) + 1 from by omega, List.take_add_one, List.take_set_of_le (by omega)]
      simp [show off + j < cs.length by omega]
    rw [h1, List.drop_set_of_lt (by omega)]
    simp only [List.append_assoc, List.singleton_append, List.cons_append, List.nil_append, List.length_cons]
    rw [show off + (j + 1) + ys.length = off + j + (ys.length + 1) from by omega]
theorem fill_ok (ht : TR γ h M w T a) {place : Nat → Option (Nat × Nat)} : ∀ {ps : List (Nat × Operand)} {cs zs : List A} {vs : List Value}, fillL place (evL T) ps cs = some zs → All2 (RdA γ h M w) cs vs →
    ∃ us : List Value, Instr.fill place vs.toArray (ps.map fun (i, x) => (i, a.eval x)) = some us.toArray ∧ All2 (RdA γ h M w) zs us
  | [], cs, zs, vs, hf, k => by simp [fillL] at hf; subst hf; exact ⟨vs, rfl, k⟩
  | (i, x) :: r, cs, zs, vs, hf, k => by
    simp only [fillL] at hf
    split at hf
    · rename_i off s ys h1 h2
      split at hf
      · rename_i hc
        obtain ⟨v, hv, hy⟩ := Option.bind_eq_some_iff.1 h2
        obtain ⟨us, e1, k1⟩ := cellsV_ok (evL_ok ht hv) hy
        have hul : us.length = s := by rw [← hc.1]; exact k1.len.symm
        have hvl := k.len
        have k2 : All2 (RdA γ h M w) (cs.take off ++ ys ++ cs.drop (off + s)) (vs.take off ++ us ++ vs.drop (off + s)) := All2.app (All2.app (All2.take _ k) k1) (All2.drop _ k)
        obtain ⟨zs', e2, k3⟩ := fill_ok ht hf k2
        refine ⟨zs', ?_, k3⟩
        rw [← e2]
        simp only [List.map_cons, Instr.fill, h1]
        rw [if_neg (by simp [e1, hul]; omega), e1]
        congr 1
        have := foldl_fill off us 0 vs (by omega)
        simp only [Nat.add_zero, hul] at this
        rw [← this]
        simp
      · cases hf
    · cases hf
theorem elemT_ok {t e : TypeId} {s : Nat} (he : elemT P t = some (e, s)) : P.underlying t = some (.slice e) ∧ sizeT P e = some s := by
  unfold elemT at he
  split at he
  · rename_i e' h1
    cases h2 : sizeT P e' with
    | none => rw [h2] at he; cases he
    | some s' => rw [h2] at he; simp at he; obtain ⟨rfl, rfl⟩ := he; exact ⟨h1, h2⟩
  · cases he
theorem arrT_ok {t e : TypeId} {n s : Nat} (he : arrT P t = some (n, e, s)) : P.underlying t = some (.array n e) ∧ sizeT P e = some s := by
  unfold arrT at he
  split at he
  · rename_i n' e' h1
    cases h2 : sizeT P e' with
    | none => rw [h2] at he; cases he
    | some s' => rw [h2] at he; simp at he; obtain ⟨rfl, rfl, rfl⟩ := he; exact ⟨h1, h2⟩
  · cases he
theorem fieldT_ok {t u : TypeId} {f o s : Nat} (hf : fieldT P t f = some (o, u, s)) : ∃ fs d, P.underlying t = some (.struct fs) ∧ fs[f]? = some d ∧ d.offset = o ∧ d.type = u ∧ sizeT P u = some s := by
  unfold fieldT at hf
  split at hf
  · rename_i fs h1
    split at hf
    · rename_i d h2
      cases h3 : sizeT P d.type with
      | none => rw [h3] at hf; cases hf
      | some s' => rw [h3] at hf; simp at hf; obtain ⟨rfl, rfl, rfl⟩ := hf; exact ⟨fs, d, h1, h2, rfl, rfl, h3⟩
    · cases hf
  · cases hf
theorem fieldAt_run {t u : TypeId} {f o s : Nat} (hf : fieldT P t f = some (o, u, s)) (hs : s ≠ 0) (b off : Nat) :
    (Instr.fieldAt t (.pointer (some ⟨b, off, none⟩)) f).run P w = .ok (.pointer (some ⟨b, off + o, none⟩)) w := by
  obtain ⟨fs, d, h1, h2, rfl, rfl, h3⟩ := fieldT_ok hf
  simp [Instr.fieldAt, run_underlying h1, h2, Instr.sureAddr, fieldPlace, sizeT_run h3, hs, Addr.add_lit]
theorem sl_elem {k : Nat} {xs : List (List D)} {v : Value} (hx : RdD M w (.sl k xs) v) {n : Nat} {row : List D} (hn : xs[n]? = some row) :
    ∃ (b o cap : Nat) (vs : Nat → Value), v = .slice (some ⟨b, o, none⟩) xs.length cap ∧ ∀ (j : Nat) d, row[j]? = some d → Fx M w b (o + n * k + j) (vs j) ∧ RdD M w d (vs j) := by
  cases hx with
  | sl k xs ad cap vs hc hl h0 hk h1 hr =>
    have hlt := (List.getElem?_eq_some_iff.1 hn).1
    obtain ⟨b, o, rfl, hf⟩ := h0 (by omega)
    exact ⟨b, o, cap, vs n, rfl, fun j d hj => ⟨hf n row j d hn hj, hr n row j d hn hj⟩⟩
theorem sl_part {k : Nat} {xs : List (List D)} {ad : Option Addr} {n cap l u m : Nat} (hx : RdD M w (.sl k xs) (.slice ad n cap)) (hlu : l ≤ u) (hum : u ≤ m) (hu : u ≤ n) (hm : m ≤ cap) :
    RdD M w (.sl k ((xs.take u).drop l)) (.slice (if m = l then ad else ad.map (·.add (l * k))) (u - l) (m - l)) := by
  cases hx with
  | sl k xs ad cap vs hc hl h0 hk h1 hr =>
    have hlen : ((xs.take u).drop l).length = u - l := by simp; omega
    have hget : ∀ i row, ((xs.take u).drop l)[i]? = some row → xs[l + i]? = some row := by
      intro i row hi
      rw [List.getElem?_drop, List.getElem?_take] at hi
      split at hi
      · exact hi
      · cases hi
    rw [← hlen]
    refine .sl k _ _ _ (fun i j => vs (l + i) j) (by omega) (by omega) (fun hp => ?_) (fun i row hi => hk _ _ (hget i row hi)) (fun _ _ => h1 _ _) (fun i row j d hi hj => hr _ _ _ _ (hget i row hi) hj)
    obtain ⟨b, o, rfl, hf⟩ := h0 (by omega)
    refine ⟨b, o + l * k, by rw [if_neg (by omega)]; simp [Addr.add_lit], fun i row j d hi hj => ?_⟩
    have := hf _ _ _ _ (hget i row hi) hj
    rwa [show o + l * k + i * k + j = o + (l + i) * k + j from by rw [Nat.add_mul]; omega]
theorem sliceBound_run {k : IntKind} {n y : Nat} {c : BoundsCode} (hn : n ≤ y) : (Instr.sliceBound (.int k (n : Int)) y c).run P w = .ok n w := by
  simp [Instr.sliceBound, asIntOf, hn]
theorem natO_ok (ht : TR γ h M w T a) {x : Option Operand} {d n : Nat} (hx : natO (evL T) d x = some n) : (x = none ∧ n = d) ∨ ∃ y k, x = some y ∧ a.eval y = .int k (n : Int) := by
  cases x with
  | none => left; simp [natO] at hx; exact ⟨rfl, hx.symm⟩
  | some y => right; obtain ⟨k, hk⟩ := natI_ok ht hx; exact ⟨y, k, rfl, hk⟩
theorem pureL_ok {o : Oper} {v : V} (ht : TR γ h M w T a) (hp : pureL P (evL T) o = some v) : ∃ r, (execOp a.eval o).run P w = .ok (.value r) w ∧ RdV γ h M w v r := by
  unfold pureL at hp
  split at hp
  case h_1 x e => exact ⟨_, by simp [execOp, e], evL_ok ht hp⟩
  case h_2 x e => exact ⟨_, by simp [execOp, e], evL_ok ht hp⟩
  case h_3 c x y e =>
    split at hp
    · rename_i b hb
      have hc := lit_inv (evL_ok ht hb)
      refine ⟨if b then a.eval x else a.eval y, by simp [execOp, e, hc, asBool], ?_⟩
      cases b
      · exact evL_ok ht (by simpa using hp)
      · exact evL_ok ht (by simpa using hp)
    · cases hp
  case h_4 op t x y ty e =>
    split at hp
    · rename_i u u' h1 h2
      cases hb : binL P t op u u' with
      | none => rw [hb] at hp; cases hp
      | some r =>
        rw [hb] at hp; injection hp with hp; subst hp
        have e1 := lit_inv (evL_ok ht h1)
        have e2 := lit_inv (evL_ok ht h2)
        refine ⟨r, ?_, .lit r⟩
        have hg : (eqGuard op t x y u u').run P w = .ok () w := by
          unfold binL at hb
          unfold eqGuard
          split at hb <;> first | cases hb | (by_cases hq : (op matches .eql | .neq) = true <;> simp [hq])
        simp [execOp, e, e1, e2, binL_run hb, hg]
    · cases hp
  case h_5 op t x e =>
    split at hp
    · rename_i u h1
      cases hb : unL op u with
      | none => rw [hb] at hp; cases hp
      | some r =>
        rw [hb] at hp; injection hp with hp; subst hp
        exact ⟨r, by simp [execOp, e, lit_inv (evL_ok ht h1), unL_run hb], .lit r⟩
    · cases hp
  case h_6 src dst x e =>
    split at hp
    · rename_i kk n k1 k2 h1 h2 h3
      injection hp with hp; subst hp
      have hs : P.underlying src = some (.int k1) := by unfold intT at h2; split at h2 <;> simp_all
      have hd : P.underlying dst = some (.int k2) := by unfold intT at h3; split at h3 <;> simp_all
      exact ⟨_, by simp [execOp, e, lit_inv (evL_ok ht h1), convert, run_underlying hs, run_underlying hd, Conv.intToInt], .lit _⟩
    · cases hp
  case h_7 t x f e =>
    split at hp
    · rename_i key off o u s h1 h2
      split at hp
      · cases hp
      · rename_i hs
        injection hp with hp; subst hp
        obtain ⟨k0, g, k1, k2⟩ := evL_ok ht h1
        exact ⟨_, by simp [execOp, e, k2, fieldAt_run h2 hs], k0, g, k1, rfl⟩
    · rename_i row off o u s h1 h2
      split at hp
      · cases hp
      · rename_i hs
        injection hp with hp; subst hp
        obtain ⟨b, oo, vs, k1, k2⟩ := evL_ok ht h1
        exact ⟨.pointer (some ⟨b, oo + off + o, none⟩), by simp [execOp, e, k1, fieldAt_run h2 hs], b, oo, vs, by rw [Nat.add_assoc], k2⟩
    · cases hp
  case h_8 t x f e =>
    split at hp
    · rename_i cs o u s h1 h2
      obtain ⟨vs, k1, k2⟩ := evL_ok ht h1
      obtain ⟨fs, d, e1, e2, rfl, rfl, e3⟩ := fieldT_ok h2
      obtain ⟨r, hr, hv⟩ := partL_ok hp e3 k2
      exact ⟨r, by simp [execOp, e, k1, Instr.field, run_underlying e1, e2, asAgg, hr], hv⟩
    · cases hp
  case h_9 t x i e =>
    split at hp
    · rename_i vx n h1 h2
      obtain ⟨ki, hki⟩ := natI_ok ht h2
      split at hp
      · rename_i k xs ee s h3 h4
        split at hp
        · rename_i hk
          subst hk
          obtain ⟨e1, e2⟩ := elemT_ok h4
          cases h5 : xs[n]? with
          | none => rw [h5] at hp; cases hp
          | some row =>
            rw [h5] at hp; injection hp with hp; subst hp
            obtain ⟨b, o, cap, vs, k1, k2⟩ := sl_elem (slOf_ok (evL_ok ht h1) h3) h5
            have hlt := (List.getElem?_eq_some_iff.1 h5).1
            refine ⟨.pointer (some ⟨b, o + n * k + 0, none⟩), ?_, b, o + n * k, vs, rfl, k2⟩
            simp [execOp, e, k1, hki, Instr.indexAt, asIntOf, run_underlying e1, sizeT_run e2, hlt, Addr.add_lit]
        · cases hp
      · split at hp
        · rename_i key off len uu s h5 hno
          split at hp
          · rename_i hn
            injection hp with hp; subst hp
            obtain ⟨e1, e2⟩ := arrT_ok h5
            obtain ⟨k0, g, k1, k2⟩ := evL_ok ht h1
            refine ⟨.pointer (some ⟨g, off + n * s, none⟩), ?_, k0, g, k1, rfl⟩
            simp [execOp, e, k2, hki, Instr.indexAt, asIntOf, run_underlying e1, Instr.sureAddr, sizeT_run e2, hn, Addr.add_lit]
          · cases hp
        · rename_i row off len uu s h5 hno
          split at hp
          · rename_i hn
            injection hp with hp; subst hp
            obtain ⟨e1, e2⟩ := arrT_ok h5
            obtain ⟨b, oo, vs, k1, k2⟩ := evL_ok ht h1
            refine ⟨.pointer (some ⟨b, oo + off + n * s, none⟩), ?_, b, oo, vs, by rw [Nat.add_assoc], k2⟩
            simp [execOp, e, k1, hki, Instr.indexAt, asIntOf, run_underlying e1, Instr.sureAddr, sizeT_run e2, hn, Addr.add_lit]
          · cases hp
        · cases hp
    · cases hp
  case h_10 t x i e =>
    split at hp
    · rename_i cs n len u s h1 h2 h3
      split at hp
      · rename_i hn
        obtain ⟨ki, hki⟩ := natI_ok ht h2
        obtain ⟨e1, e2⟩ := arrT_ok h3
        obtain ⟨vs, k1, k2⟩ := evL_ok ht h1
        obtain ⟨r, hr, hv⟩ := partL_ok hp e2 k2
        exact ⟨r, by simp [execOp, e, k1, hki, Instr.index, asIntOf, run_underlying e1, sizeT_run e2, hn, hr], hv⟩
      · cases hp
    · cases hp
  case h_11 x i e =>
    split at hp
    · rename_i ws h1
      obtain ⟨vs, k1, k2⟩ := evL_ok ht h1
      split at hp
      · rename_i y h2
        injection hp with hp; subst hp
        obtain ⟨r, e1, e2⟩ := All2.get k2 h2
        exact ⟨r, by simp [execOp, e, k1, Instr.extract, e1], e2⟩
      · rename_i y h2
        injection hp with hp; subst hp
        obtain ⟨r, e1, e2⟩ := All2.get k2 h2
        exact ⟨r, by simp [execOp, e, k1, Instr.extract, e1], e2⟩
      · cases hp
    · cases hp
  case h_12 x e =>
    split at hp
    · rename_i h1
      injection hp with hp; subst hp
      have hv := evL_ok ht h1
      obtain ⟨k0, g, k1, k2⟩ := id hv
      exact ⟨_, by simp [execOp, e, k2], k0, g, k1, rfl⟩
    · rename_i h1
      injection hp with hp; subst hp
      obtain ⟨b, oo, vs, k1, k2⟩ := evL_ok ht h1
      exact ⟨_, by simp [execOp, e, k1], b, oo, vs, rfl, k2⟩
    · rename_i h1
      injection hp with hp; subst hp
      obtain ⟨x1, y1, k1, k2⟩ := evL_ok ht h1
      exact ⟨_, by simp [execOp, e, k1], x1, y1, rfl, k2⟩
    · cases hp
  case h_13 fn first caps e =>
    split at hp
    · rename_i xs ys h1 h2
      injection hp with hp; subst hp
      refine ⟨.func fn (first.map a.eval) (caps.map a.eval), by simp [execOp, e, Instr.makeFunc], first.toList.map a.eval, caps.toList.map a.eval, by simp [← List.map_toArray], mapB_ok ht h1, mapB_ok ht h2⟩
    · cases hp
  case h_14 t parts e =>
    split at hp
    · rename_i zs pl hz hpl
      cases hf : fillL pl (evL T) parts.toList zs with
      | none => rw [hf] at hp; cases hp
      | some us =>
        rw [hf] at hp; injection hp with hp; subst hp
        obtain ⟨i, z, e1, e2, k1⟩ := zeroT_ok (γ := γ) (h := h) (M := M) (w := w) (zq_ok _) hz
        obtain ⟨vs, e3, k2⟩ := fill_ok ht hf k1
        refine ⟨.agg vs.toArray, ?_, vs, rfl, k2⟩
        have e4 : z.cells.toList.toArray = z.cells := by simp
        rw [e4] at e3
        have key : P.built t (parts.map fun (q : Nat × Operand) => (q.1, a.eval q.2)).toList = some vs.toArray := by
          have hps : (parts.map fun (q : Nat × Operand) => (q.1, a.eval q.2)).toList = parts.toList.map fun (i, x) => (i, a.eval x) := by simp
          rw [hps]
          unfold placeT at hpl
          split at hpl
          · rename_i n ee s ha
            injection hpl with hpl; subst hpl
            obtain ⟨a1, a2⟩ := arrT_ok ha
            unfold sizeT at a2
            obtain ⟨ie, hie, hs⟩ := Option.map_eq_some_iff.1 a2
            subst hs
            simp only [Program.built, e1, a1, e2, hie]
            exact e3
          · split at hpl
            · rename_i ps hps
              injection hpl with hpl; subst hpl
              unfold placesT at hps
              split at hps
              · rename_i fs hu
                simp only [Program.built, e1, hu, e2, hps]
                simpa using e3
              · cases hps
            · cases hpl
        have hr := run_build (P := P) w t _ _ key
        simp [execOp, e, hr]
    · cases hp
  case h_15 t x lo hi mx e =>
    split at hp
    · rename_i k xs ee s h1 h2
      obtain ⟨vx, hvx, h3⟩ := Option.bind_eq_some_iff.1 h1
      obtain ⟨e1, e2⟩ := elemT_ok h2
      have hrd := slOf_ok (evL_ok ht hvx) h3
      split at hp
      · rename_i l u m hl hu hm
        split at hp
        · rename_i hc
          obtain ⟨hk, hlu, hum, hml, hmh⟩ := hc
          subst hk
          injection hp with hp; subst hp
          have hsl : ∃ ad n cap, a.eval x = .slice ad n cap ∧ xs.length = n ∧ n ≤ cap := by
            generalize a.eval x = r0 at hrd
            cases hrd with
            | sl k xs ad cap vs hc => exact ⟨_, _, _, rfl, rfl, hc⟩
          obtain ⟨ad, n, cap, hax, hn, hcap⟩ := hsl
          rw [hax] at hrd
          subst hn
          have hL := natO_ok ht hl
          have hU := natO_ok ht hu
          have hM := natO_ok ht hm
          refine ⟨.slice (if (if mx.isSome then m else cap) = l then ad else ad.map (·.add (l * k))) (u - l) ((if mx.isSome then m else cap) - l), ?_, sl_part hrd hlu (by split <;> omega) (by omega) (by split <;> omega)⟩
          have hb : (Instr.sliceBounds true xs.length cap (lo.map a.eval) (hi.map a.eval) (mx.map a.eval)).run P w = .ok (l, u, (if mx.isSome then m else cap)) w := by
            rcases hL with ⟨rfl, rfl⟩ | ⟨yl, kl, rfl, hl'⟩ <;> rcases hU with ⟨rfl, rfl⟩ | ⟨yu, ku, rfl, hu'⟩ <;> rcases hM with ⟨rfl, rfl⟩ | ⟨ym, km, rfl, hm'⟩ <;>
              first | (simp at hmh; done) | skip
            all_goals simp [Instr.sliceBounds, *]
            all_goals first | done | (repeat rw [sliceBound_run (by omega)]; simp) | skip
          simp [execOp, e, hax, Instr.sliceAt, run_underlying e1, Instr.slice, hb, sizeT_run e2]
        · cases hp
      · cases hp
    · cases hp
  case h_16 x t e =>
    split at hp
    · rename_i v0 h1
      cases hl : lenL P t v0 with
      | none => rw [hl] at hp; cases hp
      | some n =>
        rw [hl] at hp; injection hp with hp; subst hp
        refine ⟨.int .i64 n, ?_, .lit _⟩
        have hv := evL_ok ht h1
        have key : ∃ ad m c, a.eval x = .slice ad m c ∧ n = (m : Int) ∧ (elemT P t).isSome = true := by
          unfold lenL at hl
          split at hl
          · split at hl
            · rename_i hs
              injection hl with hl
              generalize a.eval x = r0 at hv
              cases hv with
              | sl k xs ad cap vs => exact ⟨_, _, _, rfl, hl.symm, hs⟩
            · cases hl
          · split at hl
            · rename_i hs
              injection hl with hl
              obtain ⟨hv, _⟩ := hv
              generalize a.eval x = r0 at hv
              cases hv with
              | sl k xs ad cap vs => exact ⟨_, _, _, rfl, hl.symm, hs⟩
            · cases hl
          · split at hl
            · rename_i hs
              injection hl with hl
              generalize a.eval x = r0 at hv
              cases hv with
              | lm m _ h1 => obtain ⟨ad, m, c, e1, e2, _⟩ := h1; exact ⟨_, _, _, e1, by rw [← hl, e2], hs⟩
            · cases hl
          · split at hl
            · rename_i hs
              injection hl with hl
              exact ⟨_, _, _, lit_inv hv, hl.symm, hs⟩
            · cases hl
          · split at hl
            · rename_i hs
              injection hl with hl
              obtain ⟨_, ⟨g, _, k2⟩, _⟩ := hv
              exact ⟨_, _, _, k2, hl.symm, hs⟩
            · cases hl
          · cases hl
        obtain ⟨ad, m, c, e1, rfl, e2⟩ := key
        obtain ⟨⟨ee, s⟩, he⟩ := Option.isSome_iff_exists.1 e2
        simp [execOp, e, resolve, invoke, builtin, e1, Builtin.len_, run_underlying (elemT_ok he).1, goInt]
    · cases hp
  case h_17 => cases hp
end
end Go.Proofs.YtikglhmabidjoaaGreatDoor.Lf
