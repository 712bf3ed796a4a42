/- Texts FixA, in this order. -/
import Derived.Test.YtfffehmkohcgcaaCe
import Derived.Test.YtfffehmkohcgcaaDf
import Derived.Lib.Mul64
import Derived.Laws.Bits64b
import Derived.Shelf.Bits.Mul64
import Derived.Shelf.Spec.BitsCarry
namespace Go.Proofs.Ytfffehmkohcgcaa
open Go.RowKit Nt

def qabs (q : Rat) : Rat := if q < 0 then -q else q
/-- The absolute value of the rounded number. -/
def rN (q : Rat) : Int := (qabs q + ((1 : Int) : Rat) / ((2 : Int) : Rat)).floor
def rI (q : Rat) : Int := if q < 0 then -rN q else rN q
/-- Result and error. -/
def RV (q : Rat) : Int × Int := if 4611686018427387904 < rN q then (0, 2) else (rI q, 0)
/-- Two to a power. -/
def tw (s : Nat) : Rat := (((2 ^ s : Nat) : Int) : Rat)
def FR (q : Rat) (s : Int) : Int × Int := if 0 ≤ s ∧ s ≤ 62 then RV (q * tw s.toNat) else (0, 1)

theorem fl_bd (t : Rat) : (t.floor : Rat) ≤ t ∧ t < (t.floor : Rat) + 1 := by
  refine ⟨Rat.floor_le t, ?_⟩
  have := @Rat.lt_floor t
  grind
theorem fl_mono {a b : Rat} (h : a ≤ b) : a.floor ≤ b.floor := by
  have h1 := (fl_bd a).1
  have h2 := (fl_bd b).2
  have h3 : (a.floor : Rat) < ((b.floor + 1 : Int) : Rat) := by rw [Rat.intCast_add]; grind
  have := Rat.intCast_lt_intCast.1 h3
  omega
theorem fl_uniq {t : Rat} {n : Int} (h1 : (n : Rat) ≤ t) (h2 : t < (n : Rat) + 1) : t.floor = n := by
  have a1 := (fl_bd t).1
  have a2 := (fl_bd t).2
  have h3 : (n : Rat) < ((t.floor + 1 : Int) : Rat) := by rw [Rat.intCast_add]; grind
  have h4 : (t.floor : Rat) < ((n + 1 : Int) : Rat) := by rw [Rat.intCast_add]; grind
  have := Rat.intCast_lt_intCast.1 h3
  have := Rat.intCast_lt_intCast.1 h4
  omega
theorem half_eq : ((1 : Int) : Rat) / ((2 : Int) : Rat) = 1 / 2 := by decide +kernel
theorem two_half : (1 / 2 : Rat) + 1 / 2 = 1 := by decide +kernel
theorem half_nn : (0 : Rat) ≤ 1 / 2 := by decide +kernel
theorem half_lt : (1 / 2 : Rat) < 1 := by decide +kernel
theorem qabs_nn (q : Rat) : 0 ≤ qabs q := by unfold qabs; split <;> grind
theorem qabs_neg (q : Rat) : qabs (-q) = qabs q := by unfold qabs; split <;> split <;> grind
theorem rN_nn (q : Rat) : 0 ≤ rN q := by
  have h := fl_mono (show (0 : Rat) ≤ qabs q + ((1 : Int) : Rat) / ((2 : Int) : Rat) by have := qabs_nn q; rw [half_eq]; have := half_nn; grind)
  exact h
theorem rN_neg (q : Rat) : rN (-q) = rN q := by unfold rN; rw [qabs_neg]
theorem rN_zero : rN 0 = 0 := by decide +kernel
theorem rI_zero : rI 0 = 0 := by decide +kernel
theorem rI_neg (q : Rat) : rI (-q) = -rI q := by
  unfold rI
  rw [rN_neg]
  by_cases h : q < 0
  · have h' : ¬ -q < 0 := by grind
    rw [if_pos h, if_neg h']; omega
  · by_cases h0 : q = 0
    · subst h0; rw [rN_zero]; simp
    · have h' : -q < 0 := by grind
      rw [if_neg h, if_pos h']
theorem rI_abs (q : Rat) : rI q = rN q ∨ rI q = -rN q := by unfold rI; split <;> simp
/-- The error of rounding. -/
theorem rI_near (q : Rat) : (rI q : Rat) - 1 / 2 ≤ q ∧ q ≤ (rI q : Rat) + 1 / 2 := by
  have h := fl_bd (qabs q + ((1 : Int) : Rat) / ((2 : Int) : Rat))
  rw [half_eq] at h
  have h2 := two_half
  by_cases h0 : q < 0
  · have e : rI q = -rN q := if_pos h0
    have e2 : qabs q = -q := if_pos h0
    rw [e, Rat.intCast_neg]
    unfold rN
    rw [half_eq]
    rw [e2] at h ⊢
    constructor <;> grind
  · have e : rI q = rN q := if_neg h0
    have e2 : qabs q = q := if_neg h0
    rw [e]
    unfold rN
    rw [half_eq]
    rw [e2] at h ⊢
    constructor <;> grind
theorem rN_mono {a b : Rat} (h : qabs a ≤ qabs b) : rN a ≤ rN b := by unfold rN; exact fl_mono (by grind)
theorem rI_mono {a b : Rat} (h : a ≤ b) : rI a ≤ rI b := by
  unfold rI
  by_cases ha : a < 0
  · rw [if_pos ha]
    by_cases hb : b < 0
    · rw [if_pos hb]
      have := rN_mono (show qabs b ≤ qabs a by unfold qabs; rw [if_pos ha, if_pos hb]; grind)
      omega
    · rw [if_neg hb]; have := rN_nn a; have := rN_nn b; omega
  · have hb : ¬ b < 0 := by grind
    rw [if_neg ha, if_neg hb]
    exact rN_mono (by unfold qabs; rw [if_neg ha, if_neg hb]; exact h)
theorem qabs_int (z : Int) : qabs (z : Rat) = ((z.natAbs : Int) : Rat) := by
  unfold qabs
  by_cases h : (z : Rat) < 0
  · have : z < 0 := by have := Rat.intCast_lt_intCast (a := z) (b := 0); simpa using this.1 (by simpa using h)
    rw [if_pos h, show ((z.natAbs : Int)) = -z by omega, Rat.intCast_neg]
  · have : ¬ z < 0 := by
      intro hz; apply h; have := (Rat.intCast_lt_intCast (a := z) (b := 0)).2 hz; simpa using this
    rw [if_neg h, show ((z.natAbs : Int)) = z by omega]
theorem rN_int (z : Int) : rN (z : Rat) = z.natAbs := by
  unfold rN
  rw [qabs_int, half_eq]
  have := half_nn; have := half_lt
  exact fl_uniq (by grind) (by grind)
theorem rI_int (z : Int) : rI (z : Rat) = z := by
  unfold rI
  rw [rN_int]
  by_cases h : (z : Rat) < 0
  · have : z < 0 := by have := Rat.intCast_lt_intCast (a := z) (b := 0); simpa using this.1 (by simpa using h)
    rw [if_pos h]; omega
  · have : ¬ z < 0 := by
      intro hz; apply h; have := (Rat.intCast_lt_intCast (a := z) (b := 0)).2 hz; simpa using this
    rw [if_neg h]; omega
/-- Half up, by natural numbers. -/
theorem floor_nat (n d : Nat) (hd : 0 < d) : (mkRat (n : Int) d).floor = ((n / d : Nat) : Int) := by
  have hd0 : (d : Rat) ≠ 0 := by have : ((d : Nat) : Rat) ≠ ((0 : Nat) : Rat) := by rw [Ne, Rat.natCast_inj]; omega
                                 simpa using this
  have hdp : (0 : Rat) < (d : Rat) := by have := (Rat.natCast_lt_natCast (a := 0) (b := d)).2 hd; simpa using this
  have em : mkRat (n : Int) d * (d : Rat) = (n : Rat) := by
    rw [Rat.mkRat_eq_div]
    have : ((n : Int) : Rat) = (n : Rat) := Rat.intCast_natCast n
    rw [this, Rat.div_mul_cancel hd0]
  have h1 : n / d * d ≤ n := Nat.div_mul_le_self n d
  have h2 : n < (n / d + 1) * d := by have := Nat.lt_succ_self (n / d); exact (Nat.div_lt_iff_lt_mul hd).1 this
  have e1 : (((n / d : Nat) : Rat)) * (d : Rat) ≤ (n : Rat) := by rw [← Rat.natCast_mul]; exact Rat.natCast_le_natCast.2 h1
  have e2 : (n : Rat) < (((n / d : Nat) : Rat) + 1) * (d : Rat) := by
    have := Rat.natCast_lt_natCast.2 h2
    rw [Rat.natCast_mul, Rat.natCast_add] at this
    exact this
  refine fl_uniq ?_ ?_
  · rw [Rat.intCast_natCast]
    rw [← em] at e1
    exact Rat.le_of_mul_le_mul_right e1 hdp
  · rw [Rat.intCast_natCast]
    rw [← em] at e2
    exact Rat.lt_of_mul_lt_mul_right e2 (Rat.le_of_lt hdp)
theorem tw_pos (s : Nat) : 0 < tw s := by
  unfold tw
  have h : (0 : Int) < ((2 ^ s : Nat) : Int) := by have := Nat.two_pow_pos s; omega
  have := (Rat.intCast_lt_intCast (a := 0)).2 h
  simpa using this
theorem tw_ne (s : Nat) : tw s ≠ 0 := by have := tw_pos s; grind
theorem tw_nn (s : Nat) : 0 ≤ tw s := Rat.le_of_lt (tw_pos s)
theorem pow_le62 {s : Nat} (h : s ≤ 62) : 2 ^ s ≤ 4611686018427387904 := by
  have h1 : 2 ^ s ≤ 2 ^ 62 := Nat.pow_le_pow_right (by decide) h
  rwa [show (2 : Nat) ^ 62 = 4611686018427387904 by decide] at h1
theorem mul_nn {a b : Rat} (ha : 0 ≤ a) (hb : 0 ≤ b) : 0 ≤ a * b := Rat.mul_nonneg ha hb
theorem qabs_mul {q p : Rat} (hp : 0 < p) : qabs (q * p) = qabs q * p := by
  unfold qabs
  by_cases h : q < 0
  · have : q * p < 0 := by have := Rat.mul_pos (show 0 < -q by grind) hp; grind
    rw [if_pos h, if_pos this]; grind
  · have h1 : 0 ≤ q := by grind
    have h2 := mul_nn h1 (Rat.le_of_lt hp)
    have : ¬ q * p < 0 := by grind
    rw [if_neg h, if_neg this]
theorem rv_nn (n d : Nat) : 0 ≤ rv false n d := by
  unfold rv
  rw [← Rat.divInt_ofNat, Rat.divInt_nonneg_iff_of_pos_right (by have := un_pos d; omega)]
  simp [iv]
theorem rv_false (b : Bool) (n d : Nat) : rv false n d = qabs (rv b n d) := by
  have h := rv_nn n d
  cases b
  · unfold qabs; rw [if_neg (by grind)]
  · have e : rv true n d = -rv false n d := rv_neg false n d
    rw [e, qabs_neg]; unfold qabs; rw [if_neg (by grind)]
theorem rI_rv (b : Bool) (n d : Nat) {p : Rat} (hp : 0 < p) : rI (rv b n d * p) = if b then -rN (rv b n d * p) else rN (rv b n d * p) := by
  have h := rv_nn n d
  have h2 := mul_nn h (Rat.le_of_lt hp)
  cases b
  · unfold rI; rw [if_neg (by grind)]; simp
  · have e : rv true n d = -rv false n d := rv_neg false n d
    rw [e, show -rv false n d * p = -(rv false n d * p) by grind, rI_neg]
    unfold rI; rw [if_neg (by grind), rN_neg]; simp
theorem rN_rv (b : Bool) (n d : Nat) {p : Rat} (hp : 0 < p) : (rv false n d * p + ((1 : Int) : Rat) / ((2 : Int) : Rat)).floor = rN (rv b n d * p) := by
  unfold rN; rw [qabs_mul hp, rv_false b]
theorem rN_rv1 (b : Bool) (n d : Nat) : (rv false n d + ((1 : Int) : Rat) / ((2 : Int) : Rat)).floor = rN (rv b n d) := by
  unfold rN; rw [rv_false b]
theorem rI_sgn {q : Rat} {k : Int} (h : q.num.sign = k) : rI q = if k < 0 then -rN q else rN q := by
  unfold rI
  have := @sign_ge q
  by_cases h0 : q < 0
  · rw [if_pos h0, if_pos (by have := mt this.1 (by grind); omega)]
  · rw [if_neg h0, if_neg (by have := this.2 (by grind); omega)]
theorem iint_at {z L u w} {x : Int} {b : Bool} (e : intV z = x ∧ intB z = b) (h : AI z L w u) : Calls Try.prog 35 #[u] w (Ret w (Val (.tuple #[.int .i64 x, .bool b]))) := val_of (iint_ai h) (by rw [e.1, e.2])
theorem riint_at {z L u w} {x : Int} {b : Bool} (e : intV z = x ∧ intB z = b) (h : AI z L w u) : Calls Try.prog 93 #[u] w (Ret w (Val (.tuple #[.int .i64 x, .bool b]))) := val_of (riint_ai h) (by rw [e.1, e.2])
theorem int_in {z : Int} (h0 : 0 ≤ z) (h : z ≤ 4611686018427387904) : intV z = z ∧ intB z = true := ⟨intV_in (by omega), intB_in (by omega)⟩
theorem results_tt {fn : Func} {p q : Tmp} (h : fn.results = #[.tmp p, .tmp q]) (tmps : Array Value) (P : Program) (w : World) (x y : Value) (hp : tmps.getD p undef = x) (hq : tmps.getD q undef = y) : (results fn tmps).run P w = .ok (.tuple #[x, y]) w := by
  have hp' : tmps[p]?.getD undef = x := by simpa using hp
  have hq' : tmps[q]?.getD undef = y := by simpa using hq
  simp [results, h, hp', hq']
theorem ret_tt {fn : Func} {p q : Tmp} {a : Act} {w0 W : World} {R : World → Value → Prop} {x y : Value} (hres : fn.results = #[.tmp p, .tmp q]) (hp : a.tmps.getD p undef = x) (hq : a.tmps.getD q undef = y) (hd : a.defers = [])
    (hR : R W (.tuple #[x, y])) (HB : Below w0.heap.size w0 W) : bodyPost Try.prog fn (Ret w0 R) .ret a W :=
  bodyPost_ret (results_tt hres _ _ _ x y hp hq) hd ⟨_, rfl, hR, HB⟩
theorem fvalid_any (s : Int) (w : World) {B : Bool} (hB : decide (0 ≤ s ∧ s ≤ 62) = B) : Calls Try.prog 29 #[.int .i64 s] w (Ret w (Val (.bool B))) := by
  subst hB
  by_cases h1 : 0 ≤ s
  · have d1 : decide (0 ≤ s) = true := decide_eq_true h1
    go_enter Try.func29, Try.ntmps29
    go_wp2
    go_ret
    exact ⟨_, rfl, by simp [Val, h1], Below.refl _ _⟩
  · have d1 : decide (0 ≤ s) = false := decide_eq_false h1
    go_enter Try.func29, Try.ntmps29
    go_wp2
    go_ret
    exact ⟨_, rfl, by simp [Val], Below.refl _ _⟩
theorem shifted_any (s : Int) (w : World) {B : Bool} (hB : decide (0 ≤ s ∧ s ≤ 62) = B) : Calls Try.prog 36 #[.int .i64 s] w (Ret w (Val (.bool B))) := by
  subst hB
  by_cases h1 : 0 ≤ s
  · have d1 : decide (0 ≤ s) = true := decide_eq_true h1
    go_enter Try.func36, Try.ntmps36
    go_wp2
    go_ret
    exact ⟨_, rfl, by simp [Val, h1], Below.refl _ _⟩
  · have d1 : decide (0 ≤ s) = false := decide_eq_false h1
    go_enter Try.func36, Try.ntmps36
    go_wp2
    go_ret
    exact ⟨_, rfl, by simp [Val], Below.refl _ _⟩
theorem mag_any (a : Int) (w : World) (h1 : -9223372036854775808 ≤ a) (h2 : a < 9223372036854775808) : Calls Try.prog 43 #[.int .i64 a] w (Ret w (Val (.int .u64 (a.natAbs : Int)))) := by
  by_cases h0 : a < 0
  · have d1 : decide (a < 0) = true := decide_eq_true h0
    go_enter Try.func43, Try.ntmps43
    go_wp2
    go_ret
    refine ⟨_, rfl, ?_, Below.refl _ _⟩
    show Value.int .u64 (IntKind.u64.wrap (-IntKind.u64.wrap a)) = _
    rw [IntKind.wrap_u64, IntKind.wrap_u64]
    congr 1
    omega
  · have d1 : decide (a < 0) = false := decide_eq_false h0
    go_enter Try.func43, Try.ntmps43
    go_wp2
    go_ret
    refine ⟨_, rfl, ?_, Below.refl _ _⟩
    show Value.int .u64 a = _
    congr 1
    omega
theorem add64_run (x y c : Nat) (hx : x < 18446744073709551616) (hy : y < 18446744073709551616) (hc : c ≤ 1) (w : World) :
    (callFunc 44 #[.int .u64 x, .int .u64 y, .int .u64 c]).run Try.prog w =
      .ok (.value (.tuple #[.int .u64 (((x + y + c) % 18446744073709551616 : Nat) : Int), .int .u64 (((x + y + c) / 18446744073709551616 : Nat) : Int)])) w := by
  rw [run_callFunc_extern Try.func44 (by kernel_rfl) (by kernel_rfl) (by kernel_rfl) (e := add64Entry) (by kernel_rfl), run_add64 x y c (by omega) (by omega) (by omega) (by omega)]
  simp only [Result.andThen]
  congr 5 <;> omega
theorem sub64_run (x y b : Nat) (hb : b ≤ 1) (w : World) :
    (callFunc 71 #[.int .u64 x, .int .u64 y, .int .u64 b]).run Try.prog w =
      .ok (.value (.tuple #[.int .u64 (((x + 18446744073709551616 - y - b) % 18446744073709551616 : Nat) : Int), .int .u64 ((if x < y + b then 1 else 0 : Nat) : Int)])) w := by
  rw [run_callFunc_extern Try.func71 (by kernel_rfl) (by kernel_rfl) (by kernel_rfl) (e := sub64Entry) (by kernel_rfl), run_sub64 x y b hb]
  rfl
set_option maxHeartbeats 4000000 in
theorem mul64_any (x y : Nat) (hx : x < 18446744073709551616) (hy : y < 18446744073709551616) (w : World) :
    Calls Try.prog 42 #[.int .u64 x, .int .u64 y] w (Ret w (Val (.tuple #[.int .u64 ((x * y / 18446744073709551616 : Nat) : Int), .int .u64 ((x * y % 18446744073709551616 : Nat) : Int)]))) := by
  obtain ⟨bd, bt, bw, hhi⟩ := Lib.mul64_hi x y hx hy
  have ba := Lib.half_mul_le (a := x / 4294967296) (b := y / 4294967296) (by omega) (by omega)
  have bb := Lib.half_mul_le (a := x / 4294967296) (b := y % 4294967296) (by omega) (by omega)
  have bc := Lib.half_mul_le (a := x % 4294967296) (b := y / 4294967296) (by omega) (by omega)
  have ba' : x / 4294967296 * (y / 4294967296) < 18446744073709551616 := by omega
  have bb' : x / 4294967296 * (y % 4294967296) < 18446744073709551616 := by omega
  have bc' : x % 4294967296 * (y / 4294967296) < 18446744073709551616 := by omega
  have bh1 : x / 4294967296 * (y / 4294967296) + (x / 4294967296 * (y % 4294967296) + x % 4294967296 * (y % 4294967296) / 4294967296) / 4294967296 < 18446744073709551616 := by omega
  have bh : x / 4294967296 * (y / 4294967296) + (x / 4294967296 * (y % 4294967296) + x % 4294967296 * (y % 4294967296) / 4294967296) / 4294967296 + ((x / 4294967296 * (y % 4294967296) + x % 4294967296 * (y % 4294967296) / 4294967296) % 4294967296 + x % 4294967296 * (y / 4294967296)) / 4294967296 < 18446744073709551616 := by omega
  go_enter Try.func42, Try.ntmps42
  go_wp2
  simp only [Mul64.maskN x hx, Mul64.maskN y hy, Mul64.divN, Mul64.mulN, Mul64.addN, Mul64.wrapN _ bd, Mul64.wrapN _ bb', Mul64.wrapN _ bt, Mul64.maskN _ bt, Mul64.wrapN _ bc', Mul64.wrapN _ bw, Mul64.wrapN _ ba', Mul64.wrapN _ bh1, Mul64.wrapN _ bh, Mul64.wrapM (x * y)]
  rw [hhi]
  exact ret_tt rfl rfl rfl rfl rfl (Below.refl _ _)
end Go.Proofs.Ytfffehmkohcgcaa
