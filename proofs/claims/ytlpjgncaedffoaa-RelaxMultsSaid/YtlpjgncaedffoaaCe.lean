/- Texts RatG Spl RatH RatI RatJ ShelR, in this order. -/
import Derived.Test.YtlpjgncaedffoaaCd
import Derived.ProofKit
import Derived.OpenShut
import Derived.ShutString
import Derived.ChangeOld
import Derived.Lib.SmallJoins
namespace Go.Proofs.Ytlpjgncaedffoaa
open Go.RowKit Nt
set_option linter.unusedVariables false
theorem Box.c1 {w : World} {g : Nat} {t : TypeId} {x : Value} (h : Box w g t #[x]) : w.cell? ⟨g, 0, none⟩ = some x ∧ w.frozen? ⟨g, 0, none⟩ = false := ⟨h.cell 0 rfl, h.free 0⟩
theorem Is.ofbox {w : World} {g : Nat} {t : TypeId} (h : Box w g t #[.int .u32 1]) : Is 1 1 w (.slice (some ⟨g, 0, none⟩) 1 1) := by
  refine ⟨[1], ⟨_, _, _, rfl, rfl, Nat.le_refl _, by decide, ?_, fun _ => ⟨g, 0, rfl, h.lt, fun i hi => ?_⟩⟩, by simp [val], by simp⟩
  · intro x hx; simp at hx; omega
  · obtain rfl : i = 0 := by omega
    exact h.c1.1
theorem rdivmod_r0 {a b L M : Nat} {u v : Value} {w : World} (hb : 0 < b) (hr : a % b = 0) (h : Is a L w u) (h' : Is b M w v) (hL : L ≤ 2147483648) (hM : M ≤ 2147483648) :
    Calls Try.prog 79 #[u, v] w (Ret w (QR0 (a / b) L)) := (rdivmod_pos hb h h' hL hM).mono fun _ _ k => k.imp fun _ _ => qr0 hr
theorem rdivmod_rp {a b L M : Nat} {u v : Value} {w : World} (hb : 0 < b) (hr : 0 < a % b) (h : Is a L w u) (h' : Is b M w v) (hL : L ≤ 2147483648) (hM : M ≤ 2147483648) :
    Calls Try.prog 79 #[u, v] w (Ret w (QRp (a / b) (a % b) L)) := (rdivmod_pos hb h h' hL hM).mono fun _ _ k => k.imp fun _ _ => qrp hr
theorem ret_iie1 {fn : Func} {p q r : Tmp} {a : Act} {w0 W : World} {R : World → Value → Prop} {g h : Nat} {t t' : TypeId} {x y x' y' z : Value} (hres : fn.results = #[.cell p 58, .cell q 58, .tmp r])
    (hp : a.tmps.getD p undef = .pointer (some ⟨g, 0, none⟩)) (hq : a.tmps.getD q undef = .pointer (some ⟨h, 0, none⟩)) (hz : a.tmps.getD r undef = z) (hd : a.defers = []) (X : Box W g t #[x, y]) (Y : Box W h t' #[x', y'])
    (hR : R W (.tuple #[.agg #[x, y], .agg #[x', y'], z])) (HB : Below w0.heap.size w0 W) : bodyPost Try.prog fn (Ret w0 R) .ret a W :=
  bodyPost_ret (results_iie hres _ _ _ g h [x, y] [x', y'] z _ _ hp hq hz (box_range2 X) (box_range2 Y) Try.underlying58 rfl (by kernel_rfl) Try.underlying58 rfl (by kernel_rfl)) hd ⟨_, rfl, hR, HB⟩
theorem den_int_ne (q : Rat) : iv false q.den ≠ 0 := by
  have := q.den_pos
  show ((q.den : Nat) : Int) ≠ 0
  omega
theorem floor_den (q : Rat) : q.num / iv false q.den = q.floor := (Rat.floor_def q).symm

end Go.Proofs.Ytlpjgncaedffoaa
namespace Go.Proofs.Ytlpjgncaedffoaa
open Go.RowKit Nt
set_option linter.unusedVariables false

theorem add_int (t : Rat) (f : Int) : (t + (f : Rat)).num = t.num + f * t.den ∧ (t + (f : Rat)).den = t.den := by
  have hc : (t.num + f * t.den).natAbs.Coprime t.den := by
    have h1 : t.num.gcd (t.den : Int) = 1 := t.reduced
    have h2 : (t.num + f * t.den).gcd (t.den : Int) = 1 := by rw [Int.gcd_add_mul_right_left]; exact h1
    exact h2
  have h : t + (f : Rat) = ⟨t.num + f * t.den, t.den, t.den_nz, hc⟩ := by
    rw [Rat.mk_eq_mkRat]
    have h1 : (f : Rat) = mkRat f 1 := by rw [mkRat_one]
    rw [h1]
    conv => lhs; rw [← Rat.mkRat_self t]
    rw [Rat.mkRat_add_mkRat _ _ t.den_nz (by decide)]
    simp
  rw [h]
  exact ⟨rfl, rfl⟩
theorem sub_int (t : Rat) (f : Int) : (t - (f : Rat)).num = t.num - f * t.den ∧ (t - (f : Rat)).den = t.den := by
  have h := add_int t (-f)
  rw [Rat.intCast_neg, ← Rat.sub_eq_add_neg] at h
  refine ⟨by rw [h.1, Int.neg_mul]; omega, h.2⟩
theorem num_pos' {t : Rat} (h : 0 < t) : 0 < t.num := by
  rw [Rat.lt_iff] at h
  simpa using h
theorem one_div_parts {t : Rat} (h : 0 < t) : (1 / t).num = t.den ∧ (1 / t).den = t.num.natAbs ∧ 0 < 1 / t := by
  have hp := num_pos' h
  have e : 1 / t = t⁻¹ := by rw [Rat.div_def, Rat.one_mul]
  rw [e]
  refine ⟨by rw [Rat.num_inv, Int.sign_eq_one_of_pos hp]; omega, by rw [Rat.den_inv, if_neg (by omega)], Rat.inv_pos.2 h⟩
theorem floor_bd (t : Rat) : (t.floor : Rat) ≤ t ∧ t < (t.floor : Rat) + 1 := by
  refine ⟨Rat.floor_le t, ?_⟩
  have := @Rat.lt_floor t
  grind
theorem floor_nn {t : Rat} (h : 0 < t) : 0 ≤ t.floor := by
  rw [Rat.le_floor_iff]
  exact Rat.le_of_lt h
theorem lt_le' {a b c : Rat} (h : a < b) (h' : b ≤ c) : a < c := by grind
theorem le_num {a b : Rat} (h : a ≤ b) : a.num * b.den ≤ b.num * a.den := (Rat.le_iff a b).1 h
theorem lt_num {a b : Rat} (h : a < b) : a.num * b.den < b.num * a.den := (Rat.lt_iff a b).1 h

/-- The simplest number from lo to hi, both positive; n rounds at most. -/
def spl : Nat → Rat → Rat → Rat
  | 0, lo, _ => lo
  | n + 1, lo, hi => if (lo.floor : Rat) = lo then (lo.floor : Rat) else if (lo.floor : Rat) + 1 ≤ hi then (lo.floor : Rat) + 1 else
      (lo.floor : Rat) + 1 / spl n (1 / (hi - (lo.floor : Rat))) (1 / (lo - (lo.floor : Rat)))

/-- The state of the descent when neither the floor nor the next integer serves. -/
structure Down (lo hi : Rat) : Prop where
  f0 : 0 ≤ lo.floor
  a : 0 < hi - (lo.floor : Rat)
  b : 0 < lo - (lo.floor : Rat)
  le : lo - (lo.floor : Rat) ≤ hi - (lo.floor : Rat)
  a1 : (hi - (lo.floor : Rat)).num < hi.den
  b1 : (lo - (lo.floor : Rat)).num < lo.den
  ad : (hi - (lo.floor : Rat)).den = hi.den
  bd : (lo - (lo.floor : Rat)).den = lo.den
theorem Down.mk' {lo hi : Rat} (h0 : 0 < lo) (h : lo ≤ hi) (h1 : (lo.floor : Rat) ≠ lo) (h2 : ¬ (lo.floor : Rat) + 1 ≤ hi) : Down lo hi := by
  have hb := floor_bd lo
  have hlt : (lo.floor : Rat) < lo := by
    rcases Rat.le_iff_lt_or_eq.1 hb.1 with h3 | h3
    · exact h3
    · exact absurd h3 h1
  have key : ∀ t : Rat, 0 < t - (lo.floor : Rat) → t - (lo.floor : Rat) < 1 → (t - (lo.floor : Rat)).num < t.den := by
    intro t _ ht
    have := lt_num ht
    rw [← (sub_int t lo.floor).2]
    simpa using this
  have ha : 0 < hi - (lo.floor : Rat) := by grind
  have hb' : 0 < lo - (lo.floor : Rat) := by grind
  exact ⟨floor_nn h0, ha, hb', by grind, key hi ha (by grind), key lo hb' (by grind), (sub_int _ _).2, (sub_int _ _).2⟩
theorem one_div_le {a b : Rat} (h : 0 < a) (h' : a ≤ b) : 1 / b ≤ 1 / a := by
  have hb : 0 < b := by grind
  have h1 := one_div_parts h
  have h2 := one_div_parts hb
  have p1 := num_pos' h
  have p2 := num_pos' hb
  rw [Rat.le_iff, h1.1, h1.2.1, h2.1, h2.2.1]
  have := le_num h'
  rw [show ((a.num.natAbs : Nat) : Int) = a.num by omega, show ((b.num.natAbs : Nat) : Int) = b.num by omega]
  rw [Int.mul_comm (b.den : Int), Int.mul_comm (a.den : Int)]
  exact this
theorem one_div_one_div (t : Rat) : 1 / (1 / t) = t := by
  rw [Rat.div_def, Rat.div_def, Rat.one_mul, Rat.one_mul, Rat.inv_inv]
theorem Down.sum {lo hi : Rat} (d : Down lo hi) : (1 / (hi - (lo.floor : Rat))).den + (1 / (lo - (lo.floor : Rat))).den < lo.den + hi.den := by
  rw [(one_div_parts d.a).2.1, (one_div_parts d.b).2.1]
  have := d.a1; have := d.b1; have := num_pos' d.a; have := num_pos' d.b
  omega
theorem Down.inv {lo hi : Rat} (d : Down lo hi) : 0 < 1 / (hi - (lo.floor : Rat)) ∧ 1 / (hi - (lo.floor : Rat)) ≤ 1 / (lo - (lo.floor : Rat)) :=
  ⟨(one_div_parts d.a).2.2, one_div_le d.b d.le⟩

/-- A number between lo and hi, by the inverse of its fraction. -/
theorem back {y : Rat} (f : Int) (h : 0 < y) : ((f : Rat) + 1 / y).den = y.num.natAbs ∧ ((f : Rat) + 1 / y).num = y.den + f * y.num := by
  have h1 := one_div_parts h
  have h2 := add_int (1 / y) f
  have hp := num_pos' h
  rw [Rat.add_comm, h2.1, h2.2, h1.1, h1.2.1]
  exact ⟨rfl, by rw [show ((y.num.natAbs : Nat) : Int) = y.num by omega]⟩

theorem spl_spec : ∀ (n : Nat) (lo hi : Rat), 0 < lo → lo ≤ hi → lo.den + hi.den ≤ n →
    lo ≤ spl n lo hi ∧ spl n lo hi ≤ hi ∧ ∀ x, lo ≤ x → x ≤ hi → (spl n lo hi).den ≤ x.den ∧ (spl n lo hi).num ≤ x.num := by
  intro n
  induction n with
  | zero => intro lo hi _ _ h; have := lo.den_pos; omega
  | succ n ih =>
    intro lo hi h0 h hn
    have hb := floor_bd lo
    have hf := floor_nn h0
    rw [spl]
    split
    · rename_i h1
      rw [h1]
      refine ⟨Rat.le_refl, h, fun x hx _ => ?_⟩
      have e1 : lo.den = 1 := by rw [← h1]; rfl
      have e2 := le_num hx
      have e3 := x.den_pos
      have e4 := num_pos' h0
      rw [e1] at e2 ⊢
      refine ⟨e3, ?_⟩
      have : lo.num * 1 ≤ lo.num * (x.den : Int) := Int.mul_le_mul_of_nonneg_left (by omega) (by omega)
      omega
    · rename_i h1
      split
      · rename_i h2
        refine ⟨by grind, h2, fun x hx _ => ?_⟩
        have e : (lo.floor : Rat) + 1 = ((lo.floor + 1 : Int) : Rat) := by rw [Rat.intCast_add]; rfl
        have hlt : (lo.floor : Rat) < x := by
          rcases Rat.le_iff_lt_or_eq.1 hb.1 with h3 | h3
          · exact lt_le' h3 hx
          · exact absurd h3 h1
        have e2 := lt_num hlt
        have e3 := x.den_pos
        rw [e]
        simp only [Rat.num_intCast, Rat.den_intCast] at e2 ⊢
        refine ⟨e3, ?_⟩
        have : lo.floor * 1 ≤ lo.floor * (x.den : Int) := Int.mul_le_mul_of_nonneg_left (by omega) hf
        omega
      · rename_i h2
        have d := Down.mk' h0 h h1 h2
        have hs := d.sum
        have hr := d.inv
        obtain ⟨i1, i2, i3⟩ := ih _ _ hr.1 hr.2 (by omega)
        have sp : 0 < spl n (1 / (hi - (lo.floor : Rat))) (1 / (lo - (lo.floor : Rat))) := lt_le' hr.1 i1
        generalize hsp : spl n (1 / (hi - (lo.floor : Rat))) (1 / (lo - (lo.floor : Rat))) = s at *
        have k1 := one_div_le hr.1 i1
        have k2 := one_div_le sp i2
        rw [one_div_one_div] at k1 k2
        refine ⟨by grind, by grind, fun x hx hx' => ?_⟩
        have hxp : 0 < x - (lo.floor : Rat) := by have := d.b; grind
        have y := i3 (1 / (x - (lo.floor : Rat))) (one_div_le hxp (by grind)) (one_div_le d.b (by grind))
        have yp := (one_div_parts hxp).2.2
        have bs := back lo.floor sp
        have bx := back lo.floor yp
        rw [one_div_one_div, show (lo.floor : Rat) + (x - (lo.floor : Rat)) = x by grind] at bx
        have p1 := num_pos' sp
        have p2 := num_pos' yp
        rw [bs.1, bs.2, bx.1, bx.2]
        refine ⟨by omega, ?_⟩
        have := Int.mul_le_mul_of_nonneg_left y.2 hf
        omega

theorem spl_pos {n : Nat} {lo hi : Rat} (h0 : 0 < lo) (h : lo ≤ hi) (hn : lo.den + hi.den ≤ n) : 0 < spl n lo hi := lt_le' h0 (spl_spec n lo hi h0 h hn).1
theorem spl_sm {n L : Nat} {lo hi : Rat} (h0 : 0 < lo) (h : lo ≤ hi) (hn : lo.den + hi.den ≤ n) (hs : Sm L lo) : Sm L (spl n lo hi) := by
  have h1 := (spl_spec n lo hi h0 h hn).2.2 lo Rat.le_refl h
  have h2 := num_pos' h0
  have h3 := num_pos' (spl_pos h0 h hn)
  exact ⟨Nat.le_trans (sz_mono (by omega)) hs.1, Nat.le_trans (sz_mono h1.1) hs.2⟩
theorem Down.sm {L : Nat} {lo hi : Rat} (d : Down lo hi) (h : Sm L lo) (h' : Sm L hi) : Sm L (1 / (hi - (lo.floor : Rat))) ∧ Sm L (1 / (lo - (lo.floor : Rat))) := by
  have h1 := one_div_parts d.a
  have h2 := one_div_parts d.b
  have a1 := d.a1; have b1 := d.b1; have p1 := num_pos' d.a; have p2 := num_pos' d.b
  unfold Sm at *
  rw [h1.1, h1.2.1, h2.1, h2.2.1, d.ad, d.bd]
  simp only [Int.natAbs_natCast]
  exact ⟨⟨h'.2, Nat.le_trans (sz_mono (by omega)) h'.2⟩, ⟨h.2, Nat.le_trans (sz_mono (by omega)) h.2⟩⟩
theorem spl_down {n : Nat} {lo hi : Rat} (h1 : (lo.floor : Rat) ≠ lo) (h2 : ¬ (lo.floor : Rat) + 1 ≤ hi) : spl (n + 1) lo hi = (lo.floor : Rat) + 1 / spl n (1 / (hi - (lo.floor : Rat))) (1 / (lo - (lo.floor : Rat))) := by
  rw [spl, if_neg h1, if_neg h2]
end Go.Proofs.Ytlpjgncaedffoaa
namespace Go.Proofs.Ytlpjgncaedffoaa
open Go.RowKit Nt
set_option linter.unusedVariables false

theorem rof_one {w : World} : Calls Try.prog 46 #[.int .i64 1] w (Ret w (CR 1 2)) := of_rat (x := 1) (by decide) (by decide)
theorem zof_one {w : World} : Calls Try.prog 23 #[.int .i64 1] w (Ret w (CR 1 2)) := zof (x := 1) (by decide) (by decide)
theorem cmpQ_self (a : Rat) : cmpQ a a = 0 := by unfold cmpQ; rw [Rat.sub_self]; rfl
theorem cmpQ_zero {a b : Rat} : cmpQ a b = 0 ↔ a = b := by
  refine ⟨fun h => Rat.le_antisymm (cmpQ_le.1 (by omega)) (cmpQ_ge.1 (by omega)), fun h => h ▸ cmpQ_self a⟩
theorem AR.smL {q : Rat} {L : Nat} {w : World} {v : Value} (h : AR q L w v) (hL : 1 ≤ L) : Sm L q := h.sm.mono (by omega)

end Go.Proofs.Ytlpjgncaedffoaa
namespace Go.Proofs.Ytlpjgncaedffoaa
open Go.RowKit Nt
set_option linter.unusedVariables false

theorem sign_le {q : Rat} : q.num.sign ≤ 0 ↔ q ≤ 0 := by
  have h := @cmpQ_le q 0
  unfold cmpQ at h
  rwa [show q - 0 = q by grind] at h
theorem sign_ge {q : Rat} : 0 ≤ q.num.sign ↔ 0 ≤ q := by
  have h := @cmpQ_ge q 0
  unfold cmpQ at h
  rwa [show q - 0 = q by grind] at h
/-- The simplest number from lo to hi. -/
def smp (lo hi : Rat) : Rat := if lo ≤ 0 ∧ 0 ≤ hi then 0 else if hi < 0 then -(spl ((-hi).den + (-lo).den) (-hi) (-lo)) else spl (lo.den + hi.den) lo hi

end Go.Proofs.Ytlpjgncaedffoaa
namespace Go.Proofs.Ytlpjgncaedffoaa
open Go.RowKit Nt
set_option linter.unusedVariables false

end Go.Proofs.Ytlpjgncaedffoaa
namespace Go.Proofs.Ytlpjgncaedffoaa
open Go.RowKit Go.ChangeShapes Go.WideShapes Nt

theorem row_of_read {H : Type} {enc : TypeId × Value → H} {w : World} {base : Nat} {held : Bool} {fuel : Nat} {c : Value} {y : DataW H × List MemPlace}
    (h : DataW.trod enc Try.prog w base (fun _ => true) held fuel 23 [c] = some y) : ∃ a n k, c = .slice a n k ∧ Row w (.slice a n k) n := by
  rcases open_ints Try.underlying23 Try.underlying68 (by kernel_rfl) h with ⟨hcs, _⟩ | ⟨x, l, c', zs, hcs, _, hl, hm, hz, _, hcell, hwz⟩
  · injection hcs with h1 _
    subst h1
    exact ⟨_, _, _, rfl, fun hn => is_of_row hn (Or.inl ⟨rfl, rfl, rfl, rfl⟩)⟩
  · injection hcs with h1 _
    subst h1
    exact ⟨_, _, _, rfl, fun hn => is_of_row hn (Or.inr ⟨x, rfl, hl, hm, by simpa using hz, hcell, hwz⟩)⟩

theorem open_Int {H : Type} {enc : TypeId × Value → H} {w : World} {base : Nat} {held : Bool} {r : Reach} {b0 : Nat} {v : Value} {d : DataW H} {p : List MemPlace}
    (hv : Value.okWide Try.prog w r b0 58 v) (h : DataW.Trod enc Try.prog w base (fun _ => true) held 58 v d p) :
    ∃ b a n c, v = .agg #[.bool b, .slice a n c] ∧ Row w (.slice a n c) n := by
  obtain ⟨v0, v1, y0, y1, m, rfl, -, -, h0, h1⟩ := Joins.open_agg2 Try.underlying58 (by kernel_rfl) (by kernel_rfl) hv h
  obtain ⟨b, e0, -⟩ := DataW.trod_bool (t := 4) Try.underlying4 h0
  obtain ⟨a, n, c, rfl, hr⟩ := row_of_read h1
  injection e0 with e0 _
  subst e0
  exact ⟨b, a, n, c, rfl, hr⟩
theorem open_Rat {H : Type} {enc : TypeId × Value → H} {w : World} {base : Nat} {held : Bool} {r : Reach} {b0 : Nat} {v : Value} {d : DataW H} {p : List MemPlace}
    (hv : Value.okWide Try.prog w r b0 25 v) (h : DataW.Trod enc Try.prog w base (fun _ => true) held 25 v d p) :
    ∃ b a n c d m e, v = .agg #[.bool b, .slice a n c, .slice d m e] ∧ Row w (.slice a n c) n ∧ Row w (.slice d m e) m := by
  obtain ⟨v0, v1, v2, y0, y1, y2, m, rfl, -, -, h0, h1, h2⟩ := Joins.open_agg3 Try.underlying25 (by kernel_rfl) (by kernel_rfl) hv h
  obtain ⟨b, e0, -⟩ := DataW.trod_bool (t := 4) Try.underlying4 h0
  obtain ⟨a, n, c, rfl, hr⟩ := row_of_read h1
  obtain ⟨a', n', c', rfl, hr'⟩ := row_of_read h2
  injection e0 with e0 _
  subst e0
  exact ⟨b, a, n, c, a', n', c', rfl, hr, hr'⟩
theorem wf_i64 {n : Int} (h : (Lit.int .i64 n).wf = true) : -9223372036854775808 ≤ n ∧ n < 9223372036854775808 := by
  simp [Lit.wf, IntKind.min, IntKind.max, IntKind.signed, IntKind.bits] at h
  omega
theorem wf_u16 {n : Int} (h : (Lit.int .u16 n).wf = true) : 0 ≤ n ∧ n < 65536 := by
  simp [Lit.wf, IntKind.min, IntKind.max, IntKind.signed, IntKind.bits] at h
  omega
theorem Row.aiR {w : World} {b : Bool} {a : Option Addr} {n c : Nat} (h : Row w (.slice a n c) n) (L : Nat) (hn : n ≤ L) (hL : L ≤ 1099511627776) : ∃ z, AI z L w (.agg #[.bool b, .slice a n c]) := by
  obtain ⟨X, hX⟩ := h.is L hn hL
  exact ⟨_, AI.mk hX⟩
theorem Row.ar {w : World} {b : Bool} {a d : Option Addr} {n c m e : Nat} (h : Row w (.slice a n c) n) (h' : Row w (.slice d m e) m) (L : Nat) (hn : n ≤ L) (hm : m ≤ L) (hL : L ≤ 1099511627776) :
    ∃ q, AR q L w (.agg #[.bool b, .slice a n c, .slice d m e]) := by
  obtain ⟨X, hX⟩ := h.is L hn hL
  obtain ⟨Y, hY⟩ := h'.is L hm hL
  exact ⟨_, AR.mk hX hY⟩
end Go.Proofs.Ytlpjgncaedffoaa
