/- Lifted values: an evaluator that stops where it is told something. No program in sight. -/
import Derived.Test.YtikglhmabidjoaaGreatDoorLfM
namespace Go.Proofs.YtikglhmabidjoaaGreatDoor.Lf
open Go.RowKit Nt
set_option linter.unusedVariables false
set_option linter.unusedSimpArgs false
noncomputable def fNs (l : List Nat) : Nat → (Nat → Prop) → Prop := List.rec (motive := fun _ => Nat → (Nat → Prop) → Prop) (fun n K => K n) (fun m _ ih n K => @Bool.rec (fun _ => Prop) (ih n K) (K m) (Nat.beq n m)) l
noncomputable def fN (n : Nat) (K : Nat → Prop) : Prop := fNs [0, 1, 2, 3, 4, 5, 6, 7, 8, 9, 10, 11, 12, 13, 14, 15, 16, 17, 18, 19, 20, 21, 22, 23, 24, 25, 26, 27, 28, 29, 30, 31, 32, 33, 34, 35, 36, 37, 38, 39, 40] n K
def fD (d : D) (K : D → Prop) : Prop := match d with
  | .lit (.int k z) => K (.lit (.int k z))
  | .lit v => K (.lit v)
  | .lm xs => K (.lm xs)
  | .sl k xs => K (.sl k xs)
noncomputable def fDs (l : List D) : (List D → Prop) → Prop := List.rec (motive := fun _ => (List D → Prop) → Prop) (fun K => K []) (fun x _ ih K => fD x fun x => ih fun r => K (x :: r)) l
theorem fDs_cons (x : D) (r : List D) (K : List D → Prop) : fDs (x :: r) K = fD x fun x => fDs r fun r => K (x :: r) := rfl
noncomputable def fB (x : BA) (K : BA → Prop) : Prop := match x with
  | .d d => fD d fun d => K (.d d)
  | .ptr k o => K (.ptr k o)
noncomputable def fBs (l : List BA) : (List BA → Prop) → Prop := List.rec (motive := fun _ => (List BA → Prop) → Prop) (fun K => K []) (fun x _ ih K => fB x fun x => ih fun r => K (x :: r)) l
theorem fBs_cons (x : BA) (r : List BA) (K : List BA → Prop) : fBs (x :: r) K = fB x fun x => fBs r fun r => K (x :: r) := rfl
noncomputable def fA (x : A) (K : A → Prop) : Prop := match x with
  | .d d => fD d fun d => K (.d d)
  | .ptr k o => K (.ptr k o)
  | .own k s xs => K (.own k s xs)
  | .elt row o => fN o fun o => fDs row fun row => K (.elt row o)
  | .fn f xs ys => fBs xs fun xs => fBs ys fun ys => K (.fn f xs ys)
  | .tab k n => K (.tab k n)
  | .mp k => K (.mp k)
noncomputable def fAs (l : List A) : (List A → Prop) → Prop := List.rec (motive := fun _ => (List A → Prop) → Prop) (fun K => K []) (fun x _ ih K => fA x fun x => ih fun r => K (x :: r)) l
theorem fAs_cons (x : A) (r : List A) (K : List A → Prop) : fAs (x :: r) K = fA x fun x => fAs r fun r => K (x :: r) := rfl
noncomputable def fW (x : W) (K : W → Prop) : Prop := match x with
  | .s x => fA x fun x => K (.s x)
  | .g xs => fAs xs fun xs => K (.g xs)
noncomputable def fWs (l : List W) : (List W → Prop) → Prop := List.rec (motive := fun _ => (List W → Prop) → Prop) (fun K => K []) (fun x _ ih K => fW x fun x => ih fun r => K (x :: r)) l
theorem fWs_cons (x : W) (r : List W) (K : List W → Prop) : fWs (x :: r) K = fW x fun x => fWs r fun r => K (x :: r) := rfl
noncomputable def fV (x : V) (K : V → Prop) : Prop := match x with
  | .a x => fA x fun x => K (.a x)
  | .agg xs => fAs xs fun xs => K (.agg xs)
  | .tup xs => fWs xs fun xs => K (.tup xs)
noncomputable def fVs (l : List V) : (List V → Prop) → Prop := List.rec (motive := fun _ => (List V → Prop) → Prop) (fun K => K []) (fun x _ ih K => fV x fun x => ih fun r => K (x :: r)) l
theorem fVs_cons (x : V) (r : List V) (K : List V → Prop) : fVs (x :: r) K = fV x fun x => fVs r fun r => K (x :: r) := rfl
noncomputable def fE (x : Ent) (K : Ent → Prop) : Prop := match x with
  | .gone => K .gone
  | .box t cs => fAs cs fun cs => K (.box t cs)
  | .arr e k n => K (.arr e k n)
  | .tab e k rows => K (.tab e k rows)
  | .mp φ => K (.mp φ)
noncomputable def fHs (l : List (Nat × Ent)) : (List (Nat × Ent) → Prop) → Prop := List.rec (motive := fun _ => (List (Nat × Ent) → Prop) → Prop) (fun K => K []) (fun p _ ih K => fN p.1 fun k => fE p.2 fun x => ih fun r => K ((k, x) :: r)) l
theorem fHs_cons (p : Nat × Ent) (r : List (Nat × Ent)) (K : List (Nat × Ent) → Prop) : fHs (p :: r) K = fN p.1 fun k => fE p.2 fun x => fHs r fun r => K ((k, x) :: r) := rfl
theorem fNs_eq (K : Nat → Prop) (n : Nat) : ∀ l, fNs l n K = K n
  | [] => rfl
  | m :: ms => by
    show @Bool.rec (fun _ => Prop) (fNs ms n K) (K m) (Nat.beq n m) = K n
    cases h : Nat.beq n m with
    | true => rw [Nat.eq_of_beq_eq_true h]
    | false => exact fNs_eq K n ms
theorem fN_eq (K : Nat → Prop) (n : Nat) : fN n K = K n := fNs_eq K n _
theorem fD_eq (K : D → Prop) (d : D) : fD d K = K d := by unfold fD; split <;> rfl
theorem fDs_eq : ∀ (l : List D) (K : List D → Prop), fDs l K = K l
  | [], _ => rfl
  | x :: r, K => by rw [fDs_cons, fD_eq, fDs_eq r]
theorem fB_eq (K : BA → Prop) (x : BA) : fB x K = K x := by cases x <;> simp only [fB, fD_eq, fN_eq]
theorem fBs_eq : ∀ (l : List BA) (K : List BA → Prop), fBs l K = K l
  | [], _ => rfl
  | x :: r, K => by rw [fBs_cons, fB_eq, fBs_eq r]
theorem fA_eq (K : A → Prop) (x : A) : fA x K = K x := by cases x <;> simp only [fA, fD_eq, fN_eq, fDs_eq, fBs_eq]
theorem fAs_eq : ∀ (l : List A) (K : List A → Prop), fAs l K = K l
  | [], _ => rfl
  | x :: r, K => by rw [fAs_cons, fA_eq, fAs_eq r]
theorem fW_eq (K : W → Prop) (x : W) : fW x K = K x := by cases x <;> simp only [fW, fA_eq, fAs_eq]
theorem fWs_eq : ∀ (l : List W) (K : List W → Prop), fWs l K = K l
  | [], _ => rfl
  | x :: r, K => by rw [fWs_cons, fW_eq, fWs_eq r]
theorem fV_eq (K : V → Prop) (x : V) : fV x K = K x := by cases x <;> simp only [fV, fA_eq, fAs_eq, fWs_eq]
theorem fVs_eq : ∀ (l : List V) (K : List V → Prop), fVs l K = K l
  | [], _ => rfl
  | x :: r, K => by rw [fVs_cons, fV_eq, fVs_eq r]
theorem fE_eq (K : Ent → Prop) (x : Ent) : fE x K = K x := by cases x <;> simp only [fE, fAs_eq]
theorem fHs_eq : ∀ (l : List (Nat × Ent)) (K : List (Nat × Ent) → Prop), fHs l K = K l
  | [], _ => rfl
  | (k, x) :: r, K => by rw [fHs_cons, fN_eq, fE_eq, fHs_eq r]
noncomputable def bK (b : Bool) (A B : Prop) : Prop := @Bool.rec (fun _ => Prop) B A b
theorem bs {b : Bool} {A B : Prop} (h : b = true → A) (k : b = false → B) : @Bool.rec (fun _ => Prop) B A b := by
  cases b
  · exact k rfl
  · exact h rfl
theorem bT {b : Bool} {A B : Prop} (e : b = true) (h : A) : @Bool.rec (fun _ => Prop) B A b := by subst e; exact h
theorem bF {b : Bool} {A B : Prop} (e : b = false) (h : B) : @Bool.rec (fun _ => Prop) B A b := by subst e; exact h
noncomputable def fXw (x : W) (K : W → Prop) : Prop := match x with
  | .s (.d (.lit (.bool b))) => bK b (K (.s (.d (.lit (.bool true))))) (K (.s (.d (.lit (.bool false)))))
  | x => fW x K
noncomputable def fXs (l : List W) : (List W → Prop) → Prop := List.rec (motive := fun _ => (List W → Prop) → Prop) (fun K => K []) (fun x _ ih K => fXw x fun x => ih fun r => K (x :: r)) l
theorem fXs_cons (x : W) (r : List W) (K : List W → Prop) : fXs (x :: r) K = fXw x fun x => fXs r fun r => K (x :: r) := rfl
noncomputable def fX (v : V) (K : V → Prop) : Prop := match v with
  | .a (.d (.lit (.bool b))) => bK b (K (.a (.d (.lit (.bool true))))) (K (.a (.d (.lit (.bool false)))))
  | .tup ws => fXs ws fun ws => K (.tup ws)
  | v => fV v K
theorem bK_of {b : Bool} {K : Bool → Prop} : bK b (K true) (K false) = K b := by cases b <;> rfl
theorem fXw_eq (x : W) (K : W → Prop) : fXw x K = K x := by
  unfold fXw
  split
  · rename_i b; exact bK_of (K := fun b => K (W.s (A.d (D.lit (Value.bool b)))))
  · exact fW_eq K _
theorem fXs_eq : ∀ (l : List W) (K : List W → Prop), fXs l K = K l
  | [], _ => rfl
  | x :: r, K => by rw [fXs_cons, fXw_eq, fXs_eq r]
theorem fX_eq (v : V) (K : V → Prop) : fX v K = K v := by
  unfold fX
  split
  · rename_i b; exact bK_of (K := fun b => K (V.a (A.d (D.lit (Value.bool b)))))
  · rw [fXs_eq]
  · rw [fV_eq]
inductive Ix (z : Int) (xs : List (List D)) (K : List D → Prop) : Prop
  | mk (m : Nat) (row : List D) (h1 : z = (m : Int)) (h2 : xs[m]? = some row) (h3 : K row) : Ix z xs K
inductive Sx (lo : Option Int) (hi : Option Int) (xs : List (List D)) (K : List (List D) → Prop) : Prop
  | mk (l u : Nat) (ys : List (List D)) (h1 : lo.getD 0 = (l : Int)) (h2 : hi.getD (xs.length : Int) = (u : Int)) (h3 : l ≤ u) (h4 : u ≤ xs.length) (h5 : ys = (xs.take u).drop l) (h6 : K ys) : Sx lo hi xs K
inductive Apx (n : Nat) (xs ys : List (List D)) (K : List (List D) → Nat → Prop) : Prop
  | mk (zs : List (List D)) (h1 : n = xs.length) (h2 : zs = xs ++ ys) (h3 : zs.length ≤ 68719476736) (h4 : K zs zs.length) : Apx n xs ys K
def LX (P : Program) (f : FuncId) (args : List V) (H : List (Nat × Ent)) (R : V → List (Nat × Ent) → Prop) : Prop := ∃ v H', R v H' ∧ LC P f args H v H'
inductive Cn (P : Program) (F : FuncId) (vs : List V) (H : List (Nat × Ent)) (n : Nat) (K : V → List (Nat × Ent) → List Nat → Nat → Prop) : Prop
  | pure (gs : List V) (R : V → List (Nat × Ent) → Prop) (he : entT P F = true) (hc : LX P F gs [] R) (hw : All2 WkV vs gs) (hg : (gs.flatMap keysV).isEmpty = true)
      (hk : ∀ v H', R v H' → H' = [] ∧ keysV v = [] ∧ fX v fun v => K v [] [] n) : Cn P F vs H n K
  | lend (ks : List Nat) (gs : List V) (Hs : List (Nat × Ent)) (R : V → List (Nat × Ent) → Prop) (he : entT P F = true) (hc : LX P F (gs.map (renV fun k => ks.idxOf k)) Hs R) (hw : All2 WkV vs gs) (hn : ks.Nodup) (hb : ∀ k ∈ ks, k < n)
      (hl : lendFrom (look H) 0 ks = some Hs) (hg : ∀ key ∈ gs.flatMap keysV, key ∈ ks)
      (hk : ∀ v H1, R v H1 → H1.all (fun p => noKeys p.2) = true ∧ (∀ p ∈ H1, ks.length ≤ p.1 → look H (back ks n p.1) = none) ∧
        fX (renV (back ks n) v) fun v => fHs (H1.map fun p => (back ks n p.1, p.2)) fun sets => K v sets (ks ++ H1.map fun p => back ks n p.1) (n + H1.length)) : Cn P F vs H n K
inductive Itx (z : Int) (nn : Nat) (K : Nat → Prop) : Prop
  | mk (m : Nat) (h1 : z = (m : Int)) (h2 : m < nn) (h3 : K m) : Itx z nn K
inductive Ltx (off k s : Nat) (rows : List (List D)) (K : List A → Prop) : Prop
  | mk (m j : Nat) (row : List D) (h1 : off = m * k + j) (h2 : rows[m]? = some row) (h3 : K (((row.drop j).take s).map .d)) : Ltx off k s rows K
inductive Stx (off k s : Nat) (rows : List (List D)) (ds : List D) (K : List (List D) → Prop) : Prop
  | mk (m j : Nat) (row : List D) (rows' : List (List D)) (h1 : off = m * k + j) (h2 : rows[m]? = some row) (h3 : j + s ≤ row.length) (h4 : rows' = rows.set m (row.take j ++ ds ++ row.drop (j + s))) (h5 : K rows') : Stx off k s rows ds K
inductive Mkx (z z' : Int) (K : Nat → Prop) : Prop
  | mk (nn : Nat) (h1 : z = (nn : Int)) (h2 : z' = (nn : Int)) (h3 : nn ≤ 68719476736) (h4 : K nn) : Mkx z z' K
inductive Eqx (c : Bool) (A : Prop) : Prop
  | mk (h : c = true) (k : A) : Eqx c A
inductive Mnx (K : (Obj → Prop) → Prop) (P : Program) : Prop
  | mk (k e : TypeId) (h : K (MX P k e 0 (.map []))) : Mnx K P
inductive Lkx (P : Program) (t : TypeId) (φ : Obj → Prop) (v : Value) (K : Lit → Prop) : Prop
  | mk (k e : TypeId) (n : Nat) (D : DataW Unit) (kl zl l : Lit) (h : LkOk P t φ v k e n D kl zl l) (hk : K l) : Lkx P t φ v K
inductive Mux (P : Program) (t : TypeId) (φ : Obj → Prop) (v u : Value) (K : (Obj → Prop) → Prop) : Prop
  | mk (k e : TypeId) (n : Nat) (D : DataW Unit) (kl l : Lit) (h : MuOk P t φ v u k e n D kl l) (hk : K (MX P k e (n + 1) (D.put kl (.lit l)))) : Mux P t φ v u K
def negE : BinOp → Option Bool
  | .eql => some false
  | .neq => some true
  | _ => none
def intV (v : Option V) : Option Int := match v with
  | some (.a (.d (.lit (.int _ z)))) => some z
  | _ => none
def intO (ev : Operand → Option V) : Option Operand → Option (Option Int)
  | none => some none
  | some x => (intV (ev x)).map some
noncomputable def opG (P : Program) (o : Oper) (T : List (Nat × V)) (H : List (Nat × Ent)) (n : Nat) (K : V → List (Nat × Ent) → List Nat → Nat → Prop) : Prop :=
  match opL P o T H n with
  | some (v, sets, rk, n') => fX v fun v => fHs sets fun sets => fN n' fun n' => K v sets rk n'
  | none => False
noncomputable def opB (P : Program) (o : Oper) (T : List (Nat × V)) (H : List (Nat × Ent)) (n : Nat) (K : V → List (Nat × Ent) → List Nat → Nat → Prop) : Prop :=
  match pureL P (evL (look T)) o with
  | some v => fX v fun v => K v [] [] n
  | none => False
theorem opB_ok {P : Program} {o : Oper} {T : List (Nat × V)} {H : List (Nat × Ent)} {n : Nat} {K : V → List (Nat × Ent) → List Nat → Nat → Prop} (h : opB P o T H n K) : ∃ v sets rk n', OT P o (look T) (look H) v sets rk ∧ K v sets rk n' := by
  unfold opB at h
  split at h
  · rename_i v e
    rw [fX_eq] at h
    exact ⟨v, [], [], n, OT_pure e, h⟩
  · exact h.elim
noncomputable def opR (P : Program) (o : Oper) (T : List (Nat × V)) (H : List (Nat × Ent)) (n : Nat) (K : V → List (Nat × Ent) → List Nat → Nat → Prop) : Prop :=
  match o.op with
  | .indexAddr t x i => match (evL (look T) x).bind slOf with
    | some (k, xs) => match intV (evL (look T) i), elemT P t with
      | some z, some (_, s) => if k = s then Ix z xs fun row => fDs row fun row => K (.a (.elt row 0)) [] [] n else False
      | _, _ => False
    | none => (match evL (look T) x with
      | some (.a (.tab key nn)) => (match intV (evL (look T) i), elemT P t with
        | some z, some (_, s) => Itx z nn fun m => K (.a (.ptr key (m * s))) [] [] n
        | _, _ => False)
      | _ => opG P o T H n K)
  | .load t x => (match evL (look T) x with
    | some (.a (.ptr key off)) => (match look H key with
      | some (.tab e k rows) => (match aggT P t, sizeT P t with
        | some ag, some s => Ltx off k s rows fun ys => (match oneL ag ys s with
          | some v => fX v fun v => K v [] [key] n
          | none => False)
        | _, _ => False)
      | _ => opG P o T H n K)
    | _ => opG P o T H n K)
  | .store t x y => (match evL (look T) x with
    | some (.a (.ptr key off)) => (match look H key with
      | some (.tab e k rows) => (match sizeT P t, (evL (look T) y).bind cellsV with
        | some s, some xs => (match toDs xs with
          | some ds => if xs.length = s ∧ xs.all plainA = true then Stx off k s rows ds fun rows' => K (vl undef) [(key, .tab e k rows')] [key] n else False
          | none => False)
        | _, _ => False)
      | _ => opG P o T H n K)
    | _ => opG P o T H n K)
  | .makeSlice t l c => (match intV (evL (look T) l), intV (evL (look T) c), elemT P t, (look H n).isNone with
    | some z, some z', some (e, k), true => (match zeroT P zb e with
      | some zs => (match toDs zs with
        | some ds => if appOk P e k = true ∧ zs.all plainA = true then Mkx z z' fun nn => K (.a (.tab n nn)) [(n, .tab e k (List.replicate nn ds))] [n] (n + 1) else False
        | none => False)
      | none => False)
    | _, _, _, _ => False)
  | .makeMap t none => (match (look H n).isNone with
    | true => Mnx (fun φ => K (.a (.mp n)) [(n, .mp φ)] [n] (n + 1)) P
    | false => False)
  | .lookup t m x false => (match evL (look T) m, evL (look T) x with
    | some (.a (.mp key)), some (.a (.d (.lit v))) => (match look H key with
      | some (.mp φ) => Lkx P t φ v fun l => fX (vl l.value) fun v => K v [] [key] n
      | _ => False)
    | _, _ => False)
  | .mapUpdate t m x y => (match evL (look T) m, evL (look T) x, evL (look T) y with
    | some (.a (.mp key)), some (.a (.d (.lit v))), some (.a (.d (.lit u))) => (match look H key with
      | some (.mp φ) => Mux P t φ v u fun φ => K (vl undef) [(key, .mp φ)] [key] n
      | _ => False)
    | _, _, _ => False)
  | .slice t x lo hi none => match (evL (look T) x).bind slOf with
    | some (k, xs) => match intO (evL (look T)) lo, intO (evL (look T)) hi, elemT P t with
      | some l, some u, some (_, s) => if k = s then Sx l u xs fun ys => K (.a (.d (.sl k ys))) [] [] n else False
      | _, _, _ => False
    | none => False
  | .pick c a b => match evL (look T) c with
    | some (.a (.d (.lit (.bool q)))) => bK q (match evL (look T) a with
        | some v => K v [] [] n
        | none => False) (match evL (look T) b with
        | some v => K v [] [] n
        | none => False)
    | _ => False
  | .binOp op t x y u => (match evL (look T) x, evL (look T) y with
    | some (.agg xs), some (.agg ys) => (match structT P t, negE op with
      | some fs, some ng => (match eqFs P xs ys fs with
        | some r => Eqx (eqOk P t) (fX (vl (.bool (match ng with
          | true => !r
          | false => r))) fun v => K v [] [] n)
        | none => False)
      | _, _ => False)
    | some (.a (.d (.sl k xs))), some (.a (.d (.lit (.slice none 0 0)))) => (match negE op, xs, (elemT P t).isSome with
      | some ng, _ :: _, true => K (vl (.bool ng)) [] [] n
      | _, _, _ => False)
    | some (.a (.own key k xs)), some (.a (.d (.lit (.slice none 0 0)))) => (match negE op, xs, (elemT P t).isSome with
      | some ng, _ :: _, true => K (vl (.bool ng)) [] [] n
      | _, _, _ => False)
    | _, _ => opB P o T H n K)
  | .unOp op t x => opB P o T H n K
  | .call { callee := .builtin .append, args := ⟨[s, x]⟩, argTypes := ⟨[t, t']⟩ } => match (elemT P t').isSome, evL (look T) s, evL (look T) x with
    | true, some (.a (.own key k xs)), some vx => (match elemT P t, look H key, yOf k vx with
      | some (e, k'), some (.arr e' k'' n0), some ys => if k' = k ∧ k'' = k ∧ e' = e ∧ appOk P e k = true then Apx n0 xs ys fun zs m => K (.a (.own key k zs)) [(key, .arr e k m)] [key] (n + 1) else False
      | _, _, _ => False)
    | true, some (.a (.d (.lit (.slice none 0 0)))), some vx => (match elemT P t, (look H n).isNone with
      | some (e, k), true => (match yOf k vx with
        | some ys => if appOk P e k = true then Apx 0 [] ys fun zs m => K (.a (.own n k zs)) [(n, .arr e k m)] [n] (n + 1) else False
        | none => False)
      | _, _ => False)
    | _, _, _ => False
  | _ => opG P o T H n K
theorem opG_ok {P : Program} {o : Oper} {T : List (Nat × V)} {H : List (Nat × Ent)} {n : Nat} {K : V → List (Nat × Ent) → List Nat → Nat → Prop} (h : opG P o T H n K) : ∃ v sets rk n', OT P o (look T) (look H) v sets rk ∧ K v sets rk n' := by
  unfold opG at h
  split at h
  · rename_i v sets rk n' e
    rw [fX_eq, fHs_eq, fN_eq] at h
    exact ⟨v, sets, rk, n', opL_ok e, h⟩
  · exact h.elim
theorem intV_some {v : Option V} {z : Int} (h : intV v = some z) : ∃ k, v = some (.a (.d (.lit (.int k z)))) := by
  unfold intV at h
  split at h
  · injection h with h; subst h; exact ⟨_, rfl⟩
  · cases h
theorem natO_of {ev : Operand → Option V} {x : Option Operand} {y : Option Int} {d u : Nat} (h : intO ev x = some y) (hd : y.getD (d : Int) = (u : Int)) : natO ev d x = some u := by
  cases x with
  | none => injection h with h; subst h; simp only [Option.getD_none] at hd; exact congrArg some (by omega)
  | some x =>
    obtain ⟨z, h1, h2⟩ := Option.map_eq_some_iff.1 h
    subst h2
    obtain ⟨k, e⟩ := intV_some h1
    simp only [Option.getD_some] at hd
    subst hd
    simp [natO, natI, e]
theorem opR_ok {P : Program} {o : Oper} {T : List (Nat × V)} {H : List (Nat × Ent)} {n : Nat} {K : V → List (Nat × Ent) → List Nat → Nat → Prop} (h : opR P o T H n K) : ∃ v sets rk n', OT P o (look T) (look H) v sets rk ∧ K v sets rk n' := by
  unfold opR at h
  split at h
  · rename_i t x i e
    split at h
    · rename_i k xs hx
      split at h
      · rename_i z e' s hz ht
        split at h
        · rename_i hk
          obtain ⟨m, row, h1, h2, h3⟩ := h
          rw [fDs_eq] at h3
          obtain ⟨vx, q1, q2⟩ := Option.bind_eq_some_iff.1 hx
          obtain ⟨ik, hz⟩ := intV_some hz
          refine ⟨_, _, _, _, OT_pure ?_, h3⟩
          unfold pureL
          rw [e]
          have hv : (∃ q, vx = .a (.d (.sl k xs)) ∧ q = 0) ∨ ∃ key, vx = .a (.own key k xs) := by
            unfold slOf at q2
            split at q2
            · injection q2 with q2; injection q2 with a b; subst a b; exact .inl ⟨0, rfl, rfl⟩
            · injection q2 with q2; injection q2 with a b; subst a b; exact .inr ⟨_, rfl⟩
            · cases q2
          subst h1 hk
          rcases hv with ⟨_, rfl, _⟩ | ⟨key, rfl⟩ <;> simp [q1, hz, natI, slOf, ht, h2]
        · exact h.elim
      · exact h.elim
    · split at h
      · rename_i key nn hx
        split at h
        · rename_i z e' s hz ht
          obtain ⟨m, h1, h2, h3⟩ := h
          obtain ⟨ik, hz⟩ := intV_some hz
          subst h1
          exact ⟨_, _, _, _, OT_ixt e hx (by simp [hz, natI]) ht h2, h3⟩
        · exact h.elim
      · exact opG_ok h
  · rename_i t x e
    split at h
    · rename_i key off hx
      split at h
      · rename_i te k rows hh
        split at h
        · rename_i ag s h1 h2
          obtain ⟨m, j, row, a1, a2, a3⟩ := h
          split at a3
          · rename_i v hv
            rw [fX_eq] at a3
            exact ⟨_, _, _, _, OT_ldt e hx hh h1 h2 a1 a2 hv, a3⟩
          · exact a3.elim
        · exact h.elim
      · exact opG_ok h
    · exact opG_ok h
  · rename_i t x y e
    split at h
    · rename_i key off hx
      split at h
      · rename_i te k rows hh
        split at h
        · rename_i s xs h1 h2
          obtain ⟨vy, b1, b2⟩ := Option.bind_eq_some_iff.1 h2
          split at h
          · rename_i ds h3
            split at h
            · rename_i hc
              obtain ⟨m, j, row, rows', a1, a2, a3, a4, a5⟩ := h
              subst a4
              exact ⟨_, _, _, _, OT_stt e hx b1 hh h1 b2 h3 hc.1 hc.2 a1 a2 a3, a5⟩
            · exact h.elim
          · exact h.elim
        · exact h.elim
      · exact opG_ok h
    · exact opG_ok h
  · rename_i t l c e
    split at h
    · rename_i z z' e' k h1 h2 h3 h4
      split at h
      · rename_i zs h5
        split at h
        · rename_i ds h6
          split at h
          · rename_i hc
            obtain ⟨nn, a1, a2, a3, a4⟩ := h
            obtain ⟨k1, e1⟩ := intV_some h1
            obtain ⟨k2, e2⟩ := intV_some h2
            subst a1 a2
            exact ⟨_, _, _, _, OT_mk e (by simp [e1, natI]) (by simp [e2, natI]) h3 h5 h6 hc.1 hc.2 (by simpa using h4) a3, a4⟩
          · exact h.elim
        · exact h.elim
      · exact h.elim
    · exact h.elim
  · rename_i t e
    split at h
    · rename_i hn
      obtain ⟨k, e', h1⟩ := h
      exact ⟨_, _, _, _, OT_mkmap e (by simpa using hn), h1⟩
    · exact h.elim
  · rename_i t m x e
    split at h
    · rename_i key v hm hx
      split at h
      · rename_i φ hh
        obtain ⟨k, e', nn, D, kl, zl, l, hok, h1⟩ := h
        rw [fX_eq] at h1
        exact ⟨_, _, _, n, OT_look e hm hx hh hok, h1⟩
      · exact h.elim
    · exact h.elim
  · rename_i t m x y e
    split at h
    · rename_i key v u hm hx hy
      split at h
      · rename_i φ hh
        obtain ⟨k, e', nn, D, kl, l, hok, h1⟩ := h
        exact ⟨_, _, _, n, OT_mu e hm hx hy hh hok, h1⟩
      · exact h.elim
    · exact h.elim
  · rename_i t x lo hi e
    split at h
    · rename_i k xs hx
      split at h
      · rename_i l u e' s hl hu ht
        split at h
        · rename_i hk
          obtain ⟨l', u', ys, h1, h2, h3, h4, h5, h6⟩ := h
          refine ⟨_, _, _, _, OT_pure ?_, h6⟩
          unfold pureL
          rw [e]
          simp only [hx, ht, natO_of hl (d := 0) (by simpa using h1), natO_of hu h2, show natO (evL (look T)) xs.length none = some xs.length from rfl]
          rw [if_pos ⟨hk, h3, h4, Nat.le_refl _, by simp⟩, h5]
        · exact h.elim
      · exact h.elim
    · exact h.elim
  · rename_i c a b e
    split at h
    · rename_i q hq
      cases q with
      | true =>
        simp only [bK] at h
        split at h
        · rename_i v hv
          refine ⟨_, _, _, _, OT_pure ?_, h⟩
          unfold pureL; rw [e]; simp [hq, hv]
        · exact h.elim
      | false =>
        simp only [bK] at h
        split at h
        · rename_i v hv
          refine ⟨_, _, _, _, OT_pure ?_, h⟩
          unfold pureL; rw [e]; simp [hq, hv]
        · exact h.elim
    · exact h.elim
  · rename_i op t x y u e
    split at h
    · rename_i xs ys h1 h2
      split at h
      · rename_i fs ng h3 h4
        split at h
        · rename_i r h5
          obtain ⟨a1, a2⟩ := h
          rw [fX_eq] at a2
          have hop : op = .eql ∨ op = .neq := by unfold negE at h4; split at h4 <;> simp_all
          refine ⟨_, _, _, n, OT_eq e hop h1 h2 h3 h5 a1, ?_⟩
          rcases hop with rfl | rfl <;> (simp only [negE] at h4; injection h4 with h4; subst h4; exact a2)
        · exact h.elim
      · exact h.elim
    · rename_i k xs h1 h2
      split at h
      · rename_i ng r rs h3 h4
        have hop : op = .eql ∨ op = .neq := by unfold negE at h3; split at h3 <;> simp_all
        refine ⟨_, _, _, n, OT_nz e hop h1 rfl h2 h4, ?_⟩
        rcases hop with rfl | rfl <;> (simp only [negE] at h3; injection h3 with h3; subst h3; exact h)
      · exact h.elim
    · rename_i key k xs h1 h2
      split at h
      · rename_i ng r rs h3 h4
        have hop : op = .eql ∨ op = .neq := by unfold negE at h3; split at h3 <;> simp_all
        refine ⟨_, _, _, n, OT_nz e hop h1 rfl h2 h4, ?_⟩
        rcases hop with rfl | rfl <;> (simp only [negE] at h3; injection h3 with h3; subst h3; exact h)
      · exact h.elim
    · exact opB_ok h
  · exact opB_ok h
  · rename_i s x t t' e
    split at h
    · rename_i key k xs vx h1 h2 h3
      split at h
      · rename_i e1 k' e' k'' n0 ys g1 g2 g3
        split at h
        · rename_i hc
          obtain ⟨zs, a1, a2, a3, a4⟩ := h
          subst a2
          refine ⟨_, _, _, _, OT_append e h1 h2 h3 (n := n) ?_, a4⟩
          simp only [appL, g1, g2, g3]
          rw [if_pos ⟨hc.1, hc.2.1, hc.2.2.1, a1, hc.2.2.2, by simpa using a3⟩]
          simp
        · exact h.elim
      · exact h.elim
    · rename_i vx h1 h2 h3
      split at h
      · rename_i e1 k g1 g2
        split at h
        · rename_i ys g3
          split at h
          · rename_i hc
            obtain ⟨zs, a1, a2, a3, a4⟩ := h
            simp only [List.nil_append] at a2
            subst a2
            refine ⟨_, _, _, _, OT_append e h1 h2 h3 (n := n) ?_, a4⟩
            simp only [appL, g1, g2, g3]
            rw [if_pos ⟨hc, a3⟩]
          · exact h.elim
        · exact h.elim
      · exact h.elim
    · exact h.elim
  · exact opG_ok h
end Go.Proofs.YtikglhmabidjoaaGreatDoor.Lf
