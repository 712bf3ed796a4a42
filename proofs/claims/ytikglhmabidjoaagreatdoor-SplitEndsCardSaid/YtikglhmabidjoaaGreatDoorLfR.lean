/- Lifted values: the contracts of the rational numbers. -/
import Derived.Test.YtikglhmabidjoaaGreatDoorLfK
import Derived.Test.YtikglhmabidjoaaGreatDoorEa
namespace Go.Proofs.YtikglhmabidjoaaGreatDoor.Lf
open Go.RowKit Nt
set_option linter.unusedVariables false
set_option linter.unusedSimpArgs false
abbrev rawD (b : Bool) (xs ys : List Nat) : List D := [.lit (.bool b), .lm xs, .lm ys]
abbrev rawV (b : Bool) (xs ys : List Nat) : V := .agg [.d (.lit (.bool b)), .d (.lm xs), .d (.lm ys)]
abbrev ratD (q : Rat) : List D := rawD (decide (q < 0)) (limbs q.num.natAbs) (limbs (dn q))
abbrev ratV (q : Rat) : V := rawV (decide (q < 0)) (limbs q.num.natAbs) (limbs (dn q))
def RQ (x : V) (q : Rat) : Prop := ∃ b xs ys, WkV x (rawV b xs ys) ∧ rv b (val xs) (val ys) = q ∧ xs.length ≤ 100000000 ∧ ys.length ≤ 100000000
def Bt (k : Nat) (q : Rat) : Prop := q.num.natAbs ≤ 2 ^ k ∧ q.den ≤ 2 ^ k
theorem sz_pow2 {n k : Nat} (h : n ≤ 2 ^ k) : sz n ≤ k / 32 + 1 := by
  refine sz_le (Nat.lt_of_le_of_lt h ?_)
  rw [show 4294967296 = 2 ^ 32 from rfl, ← Nat.pow_mul]
  exact Nat.pow_lt_pow_right (by decide) (by omega)
theorem Bt.sm {k : Nat} {q : Rat} (h : Bt k q) (hk : k ≤ 3000000000) : Sm 100000000 q := ⟨Nat.le_trans (sz_pow2 h.1) (by omega), Nat.le_trans (sz_pow2 h.2) (by omega)⟩
theorem RQ.can {k : Nat} {q : Rat} (h : Bt k q) (hk : k ≤ 3000000000) : RQ (ratV q) q := by
  refine ⟨_, _, _, WkV.refl _, ?_, (h.sm hk).1, (h.sm hk).dn⟩
  rw [val_limbs, val_limbs]; exact rv_self q
theorem RQ.raw {b : Bool} {xs ys : List Nat} {q : Rat} (h : rv b (val xs) (val ys) = q) (h1 : xs.length ≤ 100000000) (h2 : ys.length ≤ 100000000) : RQ (rawV b xs ys) q := ⟨_, _, _, WkV.refl _, h, h1, h2⟩
theorem RQ.wk {x y : V} {q : Rat} (h : RQ y q) (hw : WkV x y) : RQ x q := let ⟨b, xs, ys, h1, h2, h3, h4⟩ := h; ⟨b, xs, ys, fun γ h' M w r k => h1 γ h' M w r (hw γ h' M w r k), h2, h3, h4⟩
theorem rv_zero : rv false (val []) (val []) = 0 := by decide
theorem RQ.zero : RQ (rawV false [] []) 0 := .raw rv_zero (by simp) (by simp)
theorem RQ.abs {k : Nat} {q : Rat} (h : Bt k q) (hk : k ≤ 3000000000) : RQ (rawV false (limbs q.num.natAbs) (limbs (dn q))) (mkRat q.num.natAbs q.den) := by
  refine .raw ?_ (h.sm hk).1 (h.sm hk).dn
  rw [val_limbs, val_limbs]
  unfold rv
  rw [un_dn]
  rfl
section
variable {γ : Gh} {h : Hp} {M : MS} {w : World} {x y z : V} {a b : Rat} {u v r : Value}
theorem rdV_raw {b : Bool} {xs ys : List Nat} (k : RdV γ h M w (rawV b xs ys) r) : ∃ s t, r = .agg #[.bool b, s, t] ∧ Sl w s xs ∧ Sl w t ys := by
  obtain ⟨vs, rfl, h1⟩ := k
  match vs, h1 with
  | [p, s, t], h1 => exact ⟨s, t, by rw [show p = .bool b from lit_inv h1.1], rd_sl h1.2.1, rd_sl h1.2.2.1⟩
  | [], h1 => exact h1.elim
  | [_], h1 => exact h1.2.elim
  | [_, _], h1 => exact h1.2.2.elim
  | _ :: _ :: _ :: _ :: _, h1 => exact h1.2.2.2.elim
theorem RQ.ar (hx : RQ x a) (k : RdV γ h M w x r) : AR a 100000000 w r := by
  obtain ⟨b, xs, ys, h1, h2, h3, h4⟩ := hx
  obtain ⟨s, t, rfl, k1, k2⟩ := rdV_raw (h1 _ _ _ _ _ k)
  exact ⟨b, s, t, _, _, rfl, ⟨xs, k1, rfl, h3⟩, ⟨ys, k2, rfl, h4⟩, h2⟩
theorem CR.ov {L : Nat} (k : CR a L w r) : OV w (ratV a) r := by
  obtain ⟨⟨s, t, rfl, h1, h2⟩, _⟩ := k
  exact ⟨[_, s, t], rfl, rfl, h1, h2, trivial⟩
theorem Val.ov {u : Value} (k : Val u w r) : OV w (vl u) r := k
theorem CRE.ov {L : Nat} {e : Int} (k : CRE a L e w r) : OV w (.tup [.g [.d (.lit (.bool (decide (a < 0)))), .d (.lm (limbs a.num.natAbs)), .d (.lm (limbs (dn a)))], .s (.d (.lit (.int .i64 e)))]) r := by
  obtain ⟨v, rfl, k⟩ := k
  exact ⟨[v, _], rfl, CR.ov k, rfl, trivial⟩
theorem all2_1 {R : V → Value → Prop} {rs : List Value} (k : All2 R [x] rs) : ∃ r, rs = [r] ∧ R x r := by
  match rs, k with
  | [r], k => exact ⟨r, rfl, k.1⟩
  | [], k => exact k.elim
  | _ :: _ :: _, k => exact k.2.elim
theorem all2_2 {R : V → Value → Prop} {rs : List Value} (k : All2 R [x, y] rs) : ∃ r s, rs = [r, s] ∧ R x r ∧ R y s := by
  match rs, k with
  | [r, s], k => exact ⟨r, s, rfl, k.1, k.2.1⟩
  | [], k => exact k.elim
  | [_], k => exact k.2.elim
  | _ :: _ :: _ :: _, k => exact k.2.2.elim
end
theorem mix : Tryz.prog.follows .mixedOrders = true := by rfl
theorem Calls.ret {P : Program} {f : FuncId} {args : Array Value} {w : World} {R R' : World → Value → Prop} (h : Calls P f args w (Ret w R)) (k : ∀ w' v, R w' v → R' w' v) : Calls P f args w (Ret w R') :=
  Calls.mono h fun e w' ⟨v, h1, h2, h3⟩ => ⟨v, h1, k _ _ h2, h3⟩
section
variable {x y : V} {a b : Rat}
theorem lx_rneg (hx : RQ x a) : LV Tryz.prog 83 [x] (ratV (-a)) := lv_of fun γ M w rs ha => by
  obtain ⟨r, rfl, k⟩ := all2_1 ha
  exact Calls.ret (rneg_ar (hx.ar k) (Nat.le_refl _)) fun _ _ => CR.ov
theorem lx_rsign (hx : RQ x a) : LV Tryz.prog 75 [x] (vl (.int .i64 a.num.sign)) := lv_of fun γ M w rs ha => by
  obtain ⟨r, rfl, k⟩ := all2_1 ha
  exact Calls.ret (rsign_ar _ (hx.ar k) rfl (Nat.le_refl _)) fun _ _ => Val.ov
theorem lx_radd (hx : RQ x a) (hy : RQ y b) : LV Tryz.prog 77 [x, y] (ratV (a + b)) := lv_of fun γ M w rs ha => by
  obtain ⟨r, s, rfl, k, k2⟩ := all2_2 ha
  exact Calls.ret (radd_ar (hx.ar k) (hy.ar k2) (Nat.le_refl _) (Nat.le_refl _)) fun _ _ => CR.ov
theorem lx_rsub (hx : RQ x a) (hy : RQ y b) : LV Tryz.prog 73 [x, y] (ratV (a - b)) := lv_of fun γ M w rs ha => by
  obtain ⟨r, s, rfl, k, k2⟩ := all2_2 ha
  exact Calls.ret (rsub_ar (hx.ar k) (hy.ar k2) (Nat.le_refl _) (Nat.le_refl _)) fun _ _ => CR.ov
theorem lx_rmul (hx : RQ x a) (hy : RQ y b) : LV Tryz.prog 138 [x, y] (ratV (a * b)) := lv_of fun γ M w rs ha => by
  obtain ⟨r, s, rfl, k, k2⟩ := all2_2 ha
  exact Calls.ret (rmul_ar (hx.ar k) (hy.ar k2) (Nat.le_refl _) (Nat.le_refl _)) fun _ _ => CR.ov
theorem lx_rmin (hx : RQ x a) (hy : RQ y b) : LV Tryz.prog 125 [x, y] (ratV (if a ≤ b then a else b)) := lv_of fun γ M w rs ha => by
  obtain ⟨r, s, rfl, k, k2⟩ := all2_2 ha
  exact Calls.ret (rmin_ar (hx.ar k) (hy.ar k2) (Nat.le_refl _) (Nat.le_refl _)) fun _ _ => CR.ov
theorem lx_rmax (hx : RQ x a) (hy : RQ y b) : LV Tryz.prog 82 [x, y] (ratV (if b ≤ a then a else b)) := lv_of fun γ M w rs ha => by
  obtain ⟨r, s, rfl, k, k2⟩ := all2_2 ha
  exact Calls.ret (rmax_ar (hx.ar k) (hy.ar k2) (Nat.le_refl _) (Nat.le_refl _)) fun _ _ => CR.ov
theorem lx_rcmp (hx : RQ x a) (hy : RQ y b) : LV Tryz.prog 74 [x, y] (vl (.int .i64 (cmpQ a b))) := lv_of fun γ M w rs ha => by
  obtain ⟨r, s, rfl, k, k2⟩ := all2_2 ha
  exact Calls.ret (rcmp_ar _ (hx.ar k) (hy.ar k2) rfl (Nat.le_refl _) (Nat.le_refl _)) fun _ _ => Val.ov
theorem lx_zcanon (hx : RQ x a) : LV Tryz.prog 144 [x] (ratV a) := lv_of fun γ M w rs ha => by
  obtain ⟨r, rfl, k⟩ := all2_1 ha
  exact Calls.ret (zcanon_ar (hx.ar k) (Nat.le_refl _)) fun _ _ => CR.ov
theorem lx_zsign (hx : RQ x a) : LV Tryz.prog 93 [x] (vl (.int .i64 a.num.sign)) := lv_of fun γ M w rs ha => by
  obtain ⟨r, rfl, k⟩ := all2_1 ha
  exact Calls.ret (zsign_ar _ (hx.ar k) rfl) fun _ _ => Val.ov
theorem lx_zadd (hx : RQ x a) (hy : RQ y b) : LV Tryz.prog 48 [x, y] (ratV (a + b)) := lv_of fun γ M w rs ha => by
  obtain ⟨r, s, rfl, k, k2⟩ := all2_2 ha
  exact Calls.ret (zadd_ar (hx.ar k) (hy.ar k2) (Nat.le_refl _) (Nat.le_refl _)) fun _ _ => CR.ov
theorem lx_zmul (hx : RQ x a) (hy : RQ y b) : LV Tryz.prog 49 [x, y] (ratV (a * b)) := lv_of fun γ M w rs ha => by
  obtain ⟨r, s, rfl, k, k2⟩ := all2_2 ha
  exact Calls.ret (zmul_ar (hx.ar k) (hy.ar k2) (Nat.le_refl _) (Nat.le_refl _)) fun _ _ => CR.ov
theorem lx_rof {z : Int} (h1 : -9223372036854775808 ≤ z) (h2 : z < 9223372036854775808) : LV Tryz.prog 78 [vl (.int .i64 z)] (ratV (z : Rat)) := lv_of fun γ M w rs ha => by
  obtain ⟨r, rfl, k⟩ := all2_1 ha
  rw [show r = .int .i64 z from lit_inv k]
  exact Calls.ret (of_rat h1 h2) fun _ _ => CR.ov
theorem lx_zof {z : Int} (h1 : -9223372036854775808 ≤ z) (h2 : z < 9223372036854775808) : LV Tryz.prog 22 [vl (.int .i64 z)] (ratV (z : Rat)) := lv_of fun γ M w rs ha => by
  obtain ⟨r, rfl, k⟩ := all2_1 ha
  rw [show r = .int .i64 z from lit_inv k]
  exact Calls.ret (zof h1 h2) fun _ _ => CR.ov
theorem lx_zfrac {y z : Int} (h1 : -9223372036854775808 ≤ y) (h2 : y < 9223372036854775808) (h3 : -9223372036854775808 ≤ z) (h4 : z < 9223372036854775808) (hz : z ≠ 0) :
    LV Tryz.prog 23 [vl (.int .i64 y), vl (.int .i64 z)] (.tup [.g [.d (.lit (.bool (decide ((y : Rat) / z < 0)))), .d (.lm (limbs ((y : Rat) / z).num.natAbs)), .d (.lm (limbs (dn ((y : Rat) / z))))], .s (.d (.lit (.int .i64 0)))]) := lv_of fun γ M w rs ha => by
  obtain ⟨r, s, rfl, k, k'⟩ := all2_2 ha
  rw [show r = .int .i64 y from lit_inv k, show s = .int .i64 z from lit_inv k']
  exact Calls.ret (zfrac_1 h1 h2 h3 h4 hz) fun _ _ => CRE.ov
theorem lx_rdiv (h0 : b ≠ 0) (hx : RQ x a) (hy : RQ y b) : LV Tryz.prog 76 [x, y] (.tup [.g [.d (.lit (.bool (decide (a / b < 0)))), .d (.lm (limbs (a / b).num.natAbs)), .d (.lm (limbs (dn (a / b))))], .s (.d (.lit (.int .i64 0)))]) := lv_of fun γ M w rs ha => by
  obtain ⟨r, s, rfl, k, k'⟩ := all2_2 ha
  exact Calls.ret (rdiv_ar h0 (hx.ar k) (hy.ar k') (Nat.le_refl _) (Nat.le_refl _)) fun _ _ => CRE.ov
theorem lx_rvalid {c : Bool} {xs ys : List Nat} (h1 : xs.length ≤ 100000000) (h2 : ys.length ≤ 100000000) : LV Tryz.prog 119 [rawV c xs ys] (vl (.bool (vB c xs ys (rv c (val xs) (val ys))))) := lv_of fun γ M w rs ha => by
  obtain ⟨r, rfl, k⟩ := all2_1 ha
  obtain ⟨s, t, rfl, k1, k2⟩ := rdV_raw k
  obtain ⟨s1, s2, s3, rfl⟩ := k1.lit
  obtain ⟨t1, t2, t3, rfl⟩ := k2.lit
  exact Calls.ret (rvalid_v rfl k1 k2 h1 h2 (Nat.le_refl _)) fun _ _ => Val.ov
end
end Go.Proofs.YtikglhmabidjoaaGreatDoor.Lf
