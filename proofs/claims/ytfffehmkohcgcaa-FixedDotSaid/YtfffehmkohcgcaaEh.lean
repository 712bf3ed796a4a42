/- Texts FixG, in this order. -/
import Derived.Test.YtfffehmkohcgcaaEg
namespace Go.Proofs.Ytfffehmkohcgcaa
open Go.RowKit Nt
set_option linter.unusedVariables false
/-- The slice value v reads as the numbers xs. -/
def Si (w : World) (v : Value) (xs : List Int) : Prop :=
  ∃ ad n cap, v = .slice ad n cap ∧ xs.length = n ∧ n ≤ 1099511627776 ∧ (∀ z ∈ xs, -9223372036854775808 ≤ z ∧ z < 9223372036854775808) ∧
    (0 < n → ∃ b off, ad = some ⟨b, off, none⟩ ∧ b < w.heap.size ∧ ∀ i, i < n → w.cell? ⟨b, off + i, none⟩ = some (.int .i64 (xs.getD i 0)))
theorem Si.below {w w' : World} {v : Value} {xs : List Int} (h : Si w v xs) (hb : Below w.heap.size w w') : Si w' v xs := by
  obtain ⟨ad, n, cap, hv, hl, hm, hx, hs⟩ := h
  refine ⟨ad, n, cap, hv, hl, hm, hx, fun h0 => ?_⟩
  obtain ⟨b, off, ha, hbs, hcell⟩ := hs h0
  exact ⟨b, off, ha, Nat.lt_of_lt_of_le hbs hb.size, fun i hi => (hb.cell (p := ⟨b, off + i, none⟩) hbs).trans (hcell i hi)⟩
def dots (xs ys : List Int) : Nat → Int
  | 0 => 0
  | j + 1 => dots xs ys j + xs.getD j 0 * ys.getD j 0
theorem prod_words {x y : Int} {A M : Nat} (hA : x.natAbs = A) (hM : y.natAbs = M) : (if (decide (x < 0) != decide (y < 0)) then -(((A * M % 18446744073709551616 : Nat) : Int) + ((A * M / 18446744073709551616 : Nat) : Int) * 18446744073709551616) else ((A * M % 18446744073709551616 : Nat) : Int) + ((A * M / 18446744073709551616 : Nat) : Int) * 18446744073709551616) = x * y := by
  have e : ((A * M % 18446744073709551616 : Nat) : Int) + ((A * M / 18446744073709551616 : Nat) : Int) * 18446744073709551616 = ((A * M : Nat) : Int) := by omega
  have e2 : ((A * M : Nat) : Int) = (A : Int) * (M : Int) := by simp
  rw [e, e2]
  by_cases h1 : x < 0 <;> by_cases h2 : y < 0
  · rw [decide_eq_true h1, decide_eq_true h2, show x = -(A : Int) by omega, show y = -(M : Int) by omega]; simp
    exact (Int.neg_mul_neg _ _).symm
  · rw [decide_eq_true h1, decide_eq_false h2, show x = -(A : Int) by omega, show y = (M : Int) by omega]; simp [Int.neg_mul]
  · rw [decide_eq_false h1, decide_eq_true h2, show x = (A : Int) by omega, show y = -(M : Int) by omega]; simp [Int.mul_neg]
  · rw [decide_eq_false h1, decide_eq_false h2, show x = (A : Int) by omega, show y = (M : Int) by omega]; simp
theorem getD_in {xs : List Int} (h : ∀ z ∈ xs, -9223372036854775808 ≤ z ∧ z < 9223372036854775808) (j : Nat) : -9223372036854775808 ≤ xs.getD j 0 ∧ xs.getD j 0 < 9223372036854775808 := by
  by_cases hj : j < xs.length
  · rw [List.getD_eq_getElem?_getD, List.getElem?_eq_getElem hj]; exact h _ (List.getElem_mem hj)
  · rw [List.getD_eq_getElem?_getD, List.getElem?_eq_none (by omega)]; simp
theorem mul_bd {x y : Int} (hx : -9223372036854775808 ≤ x ∧ x < 9223372036854775808) (hy : -9223372036854775808 ≤ y ∧ y < 9223372036854775808) : -85070591730234615865843651857942052864 ≤ x * y ∧ x * y ≤ 85070591730234615865843651857942052864 := by
  have h : (x * y).natAbs ≤ 9223372036854775808 * 9223372036854775808 := by rw [Int.natAbs_mul]; exact Nat.mul_le_mul (by omega) (by omega)
  have e : (9223372036854775808 * 9223372036854775808 : Nat) = 85070591730234615865843651857942052864 := by decide
  rw [e] at h
  omega
theorem dots_bd {xs ys : List Int} (hx : ∀ z ∈ xs, -9223372036854775808 ≤ z ∧ z < 9223372036854775808) (hy : ∀ z ∈ ys, -9223372036854775808 ≤ z ∧ z < 9223372036854775808) (j : Nat) :
    -(j * 85070591730234615865843651857942052864 : Int) ≤ dots xs ys j ∧ dots xs ys j ≤ (j * 85070591730234615865843651857942052864 : Int) := by
  induction j with
  | zero => simp [dots]
  | succ j ih =>
    have := mul_bd (getD_in hx j) (getD_in hy j)
    show _ ≤ dots xs ys j + _ ∧ dots xs ys j + _ ≤ _
    push_cast
    omega
/-- The end: the words of what is not negative. -/
theorem end_pos {Z : Int} {y0 y1 y2 : Nat} {k : Int} (b0 : y0 < 18446744073709551616) (b1 : y1 < 18446744073709551616) (b2 : y2 < 18446744073709551616) (hk : Z = (V3 y0 y1 y2 : Int) + k * B3)
    (h1 : -1569275433846670190958947355801916604025588861116008628224 ≤ Z) (h2 : Z ≤ 1569275433846670190958947355801916604025588861116008628224) : (y2 / 9223372036854775808 = 1 ↔ Z < 0) ∧ (0 ≤ Z → Z = (V3 y0 y1 y2 : Int)) ∧ (Z < 0 → Z = (V3 y0 y1 y2 : Int) - B3) := by
  unfold V3 B3 at *
  have : k = 0 ∨ k = -1 := by omega
  rcases this with rfl | rfl <;> omega
theorem end_neg {Z : Int} {y0 y1 y2 s0 s1 s2 : Nat} {k : Int} (b0 : y0 < 18446744073709551616) (b1 : y1 < 18446744073709551616) (b2 : y2 < 18446744073709551616) (hZ : Z = (V3 y0 y1 y2 : Int) - B3) (h0 : Z < 0) (h1 : -1569275433846670190958947355801916604025588861116008628224 ≤ Z)
    (c0 : s0 < 18446744073709551616) (c1 : s1 < 18446744073709551616) (c2 : s2 < 18446744073709551616) (hk : ((V3 0 0 0 : Nat) : Int) + -((y0 : Int) + (y1 : Int) * 18446744073709551616) = (V3 s0 s1 s2 : Int) + k * B3) :
    ((s0 : Int) + s1 * 18446744073709551616 + ((-(y2 : Int) - (if y0 = 0 ∧ y1 = 0 then 0 else 1)) % 18446744073709551616) * 340282366920938463463374607431768211456) = -Z := by
  unfold V3 B3 at *
  have hk2 : k = 0 ∨ k = -1 := by omega
  split
  · rcases hk2 with rfl | rfl <;> omega
  · rcases hk2 with rfl | rfl <;> omega

theorem RVz_big {Z a e : Int} (hf : RV (Z : Rat) = (a, e)) (h : 4611686018427387904 < Z.natAbs) : 0 = a ∧ 2 = e := by
  rw [RV_big (by rw [rN_int]; omega)] at hf
  injection hf with h1 h2; exact ⟨h1, h2⟩
theorem RVz_ok {Z a e : Int} (hf : RV (Z : Rat) = (a, e)) (h : Z.natAbs ≤ 4611686018427387904) : Z = a ∧ 0 = e := by
  rw [RV_ok (by rw [rN_int]; omega), rI_int] at hf
  injection hf with h1 h2; exact ⟨h1, h2⟩
theorem neg_ok {Z : Int} {s0 s1 r2 : Nat} (h : ((s0 : Int) + (s1 : Int) * 18446744073709551616 + (r2 : Int) * 340282366920938463463374607431768211456) = -Z) (h1 : ¬ 0 < r2) (h2 : ¬ 0 < s1) (h3 : ¬ 4611686018427387904 < s0) : Z.natAbs ≤ 4611686018427387904 ∧ Z = -(s0 : Int) := by
  obtain rfl : r2 = 0 := by omega
  obtain rfl : s1 = 0 := by omega
  simp at h
  omega
theorem pos_ok {Z : Int} {s0 s1 r2 : Nat} (h : Z = (V3 s0 s1 r2 : Int)) (h1 : ¬ 0 < r2) (h2 : ¬ 0 < s1) (h3 : ¬ 4611686018427387904 < s0) : Z.natAbs ≤ 4611686018427387904 ∧ Z = (s0 : Int) := by
  obtain rfl : r2 = 0 := by omega
  obtain rfl : s1 = 0 := by omega
  simp [V3] at h
  omega
theorem neg_big {Z : Int} {s0 s1 r2 : Nat} (h : ((s0 : Int) + (s1 : Int) * 18446744073709551616 + (r2 : Int) * 340282366920938463463374607431768211456) = -Z) (h1 : 0 < r2 ∨ 0 < s1 ∨ 4611686018427387904 < s0) : 4611686018427387904 < Z.natAbs := by omega
theorem pos_big {Z : Int} {s0 s1 r2 : Nat} (h : Z = (V3 s0 s1 r2 : Int)) (h1 : 0 < r2 ∨ 0 < s1 ∨ 4611686018427387904 < s0) : 4611686018427387904 < Z.natAbs := by unfold V3 at h; omega
theorem d_t0 {n : Nat} (h : 0 < n) : decide ((0 : Int) < ((n : Nat) : Int)) = true := decide_eq_true (by omega)
theorem d_f0 {n : Nat} (h : ¬ 0 < n) : decide ((0 : Int) < ((n : Nat) : Int)) = false := decide_eq_false (by omega)
theorem d_t62 {n : Nat} (h : 4611686018427387904 < n) : decide ((4611686018427387904 : Int) < ((n : Nat) : Int)) = true := decide_eq_true (by omega)
theorem d_f62 {n : Nat} (h : ¬ 4611686018427387904 < n) : decide ((4611686018427387904 : Int) < ((n : Nat) : Int)) = false := decide_eq_false (by omega)
theorem s0_bd {s0 : Nat} (h3 : ¬ 4611686018427387904 < s0) : IntKind.i64.wrap ((s0 : Nat) : Int) = ((s0 : Nat) : Int) ∧ wrap64 ((s0 : Nat) : Int) = ((s0 : Nat) : Int) ∧ IntKind.i64.wrap (-((s0 : Nat) : Int)) = -((s0 : Nat) : Int) ∧ wrap64 (-((s0 : Nat) : Int)) = -((s0 : Nat) : Int) :=
  ⟨IntWalk.i64_in _ (by omega), wrap64_id (by omega) (by omega), IntWalk.i64_in _ (by omega), wrap64_id (by omega) (by omega)⟩
theorem fr_loop {xs ys : List Int} {z : Int} {j s0 s1 s2 y0 y1 y2 A M : Nat} (hA : (xs.getD j 0).natAbs = A) (hM : (ys.getD j 0).natAbs = M) (h : ∃ k : Int, z + dots xs ys j = (V3 y0 y1 y2 : Int) + k * B3)
    (h' : ∃ k : Int, (V3 y0 y1 y2 : Int) + (if (decide (xs.getD j 0 < 0) != decide (ys.getD j 0 < 0)) = true then -(((A * M % 18446744073709551616 : Nat) : Int) + ((A * M / 18446744073709551616 : Nat) : Int) * 18446744073709551616) else ((A * M % 18446744073709551616 : Nat) : Int) + ((A * M / 18446744073709551616 : Nat) : Int) * 18446744073709551616) = (V3 s0 s1 s2 : Int) + k * B3) :
    ∃ k : Int, z + dots xs ys (j + 1) = (V3 s0 s1 s2 : Int) + k * B3 := by
  obtain ⟨k, h⟩ := h
  obtain ⟨k', h'⟩ := h'
  have e := prod_words hA hM
  rw [e] at h'
  refine ⟨k + k', ?_⟩
  show z + (dots xs ys j + _) = _
  rw [← Int.add_assoc, h, Int.add_mul]
  omega
theorem fr_start {z : Int} {ZA y0 y1 y2 : Nat} (hz : ((z.natAbs : Nat) : Int) = (ZA : Int)) (h : ∃ k : Int, ((V3 0 0 0 : Nat) : Int) + (if decide (z < 0) = true then -(((ZA : Nat) : Int) + ((0 : Nat) : Int) * 18446744073709551616) else ((ZA : Nat) : Int) + ((0 : Nat) : Int) * 18446744073709551616) = (V3 y0 y1 y2 : Int) + k * B3) (xs ys : List Int) :
    ∃ k : Int, z + dots xs ys 0 = (V3 y0 y1 y2 : Int) + k * B3 := by
  obtain ⟨k, h⟩ := h
  refine ⟨k, ?_⟩
  rw [← h]
  show z + 0 = ((V3 0 0 0 : Nat) : Int) + _
  have : ((V3 0 0 0 : Nat) : Int) = 0 := rfl
  rw [this]
  by_cases h0 : z < 0
  · rw [decide_eq_true h0, if_pos rfl]; omega
  · rw [decide_eq_false h0, if_neg (by decide)]; omega

set_option maxRecDepth 100000 in
set_option maxHeartbeats 4000000 in
theorem fdot_t {pu pv : Option Addr} {n cu cv : Nat} {xs ys : List Int} {z a e : Int} {w : World} (hu : Si w (.slice pu n cu) xs) (hv : Si w (.slice pv n cv) ys) (hz1 : -9223372036854775808 ≤ z) (hz2 : z < 9223372036854775808) (hf : RV ((z + dots xs ys n : Int) : Rat) = (a, e)) :
    Calls Try.prog 20 #[.slice pu n cu, .slice pv n cv, .int .i64 z] w (Ret w (Val (.tuple #[.int .i64 a, .int .i64 e]))) := by
  have Hf := Lib.hid hf
  clear hf
  obtain ⟨ZA, hZA⟩ : ∃ A : Nat, z.natAbs = A := ⟨_, rfl⟩
  have HZB := Lib.hid (show ZA < 18446744073709551616 by omega)
  have HZA := Lib.hid (show ((z.natAbs : Nat) : Int) = (ZA : Int) by rw [hZA])
  obtain ⟨_, _, _, he, hxl, hxm, hxb, hxc⟩ := hu
  injection he with e1 e2 e3
  subst e1 e2 e3
  obtain ⟨_, _, _, he, hyl, hym, hyb, hyc⟩ := hv
  injection he with e1 e2 e3
  subst e1 e2 e3
  have Hz1 := Lib.hid hz1
  have Hz2 := Lib.hid hz2
  have Hxb := Lib.hid hxb
  have Hyb := Lib.hid hyb
  have Hxc := Lib.hid hxc
  have Hyc := Lib.hid hyc
  clear hz1 hz2 hZA hxb hyb hxc hyc
  go_enter Try.func20, Try.ntmps20
  have HB := Lib.hid (Below.refl w.heap.size w)
  go_wp2_with fail
  obtain ⟨W1, hW⟩ : ∃ W1, W1 = (World.alloc w (.cells #[.int .u64 0, .int .u64 0, .int .u64 0] 64)) := ⟨_, rfl⟩
  rw [← hW]
  obtain ⟨xa0, hk, hb⟩ := boxes_1 _ _ _ hW
  clear hW
  have Ga0 := Lib.hid (show w.heap.size ≤ w.heap.size from Nat.le_trans HB.out.size (by omega))
  have Xa0 := Lib.hid xa0
  have HB := Lib.hid (below_call HB.out hb)
  clear hk hb xa0
  refine Calls.mono (val_of (mag_any z _ Hz1.out Hz2.out) (by rw [HZA.out])) ?_
  rintro e w2 ⟨v2, rfl, rfl, hb⟩
  have Xa0 := Lib.hid (Box.pcall hb Xa0.out)
  have HB := Lib.hid (below_call HB.out hb)
  clear hb
  obtain ⟨ca00, ca01, ca02, fa00, fa01, fa02⟩ := Xa0.out.c3
  have la0 := Xa0.out.lt
  go_wp2_with fail
  clear ca00 ca01 ca02 fa00 fa01 fa02 la0
  refine Calls.mono (sum_any (x0 := 0) (x1 := 0) (x2 := 0) (h := 0) (l := ZA) Xa0.out (by decide) (by decide) (by decide) (by decide) HZB.out) ?_
  rintro e w3 ⟨rfl, hwr, y0, y1, y2, q0, q1, q2, xx, hkk⟩
  have Xa0 := Lib.hid (show Box w3 w.heap.size 64 #[.int .u64 ((y0 : Nat) : Int), .int .u64 ((y1 : Nat) : Int), .int .u64 ((y2 : Nat) : Int)] from xx)
  have HB := Lib.hid (hwr.below HB.out Ga0.out)
  have Qy := Lib.hid (And.intro q0 (And.intro q1 q2))
  have Ky := Lib.hid hkk
  clear hwr xx hkk q0 q1 q2
  obtain ⟨ca00, ca01, ca02, fa00, fa01, fa02⟩ := Xa0.out.c3
  have la0 := Xa0.out.lt
  go_wp2
  clear ca00 ca01 ca02 fa00 fa01 fa02 la0
  have Kz := Lib.hid (fr_start HZA.out Ky.out xs ys)
  obtain ⟨g, hg⟩ : ∃ g : Nat, g = w.heap.size := ⟨_, rfl⟩
  rw [← hg] at Xa0
  have Gg := Lib.hid (show w.heap.size ≤ g by omega)
  simp only [← hg]
  clear hg Ky
  go_loopw [26] (fun i wr => ∃ j y0 y1 y2 : Nat, j ≤ n ∧ i = .int .i64 ((j : Nat) : Int) ∧ (y0 < 18446744073709551616 ∧ y1 < 18446744073709551616 ∧ y2 < 18446744073709551616) ∧ Box wr g 64 (U3 y0 y1 y2) ∧ (∃ k : Int, z + dots xs ys j = (V3 y0 y1 y2 : Int) + k * B3) ∧ Below w.heap.size w wr) (fun i _ => n - (intOf i).toNat)
  case atStart => exact ⟨0, _, _, _, Nat.zero_le _, rfl, Qy.out, Xa0.out, Kz.out, HB.out⟩
  case round =>
    clear HB Xa0 Kz Qy
    obtain ⟨j, y0, y1, y2, hj, rfl, q0, xx, kk, hb⟩ := hrel
    have Xa0 := Lib.hid (show Box wr g 64 #[.int .u64 ((y0 : Nat) : Int), .int .u64 ((y1 : Nat) : Int), .int .u64 ((y2 : Nat) : Int)] from xx)
    have Qy := Lib.hid q0
    have Ky := Lib.hid kk
    have HB := Lib.hid hb
    clear xx q0 kk hb
    by_cases hjn : j < n
    · obtain ⟨bu, ou, rfl, hbu, hcu⟩ := Hxc.out (by omega)
      obtain ⟨bv, ov, rfl, hbv, hcv⟩ := Hyc.out (by omega)
      obtain ⟨x, hx⟩ : ∃ x : Int, x = xs.getD j 0 := ⟨_, rfl⟩
      obtain ⟨y, hy⟩ : ∃ y : Int, y = ys.getD j 0 := ⟨_, rfl⟩
      have Lu := Lib.hid hbu
      have Lv := Lib.hid hbv
      have Cu := Lib.hid (show w.cell? ⟨bu, ou + j, none⟩ = some (.int .i64 x) by rw [hx]; exact hcu j hjn)
      have Cv := Lib.hid (show w.cell? ⟨bv, ov + j, none⟩ = some (.int .i64 y) by rw [hy]; exact hcv j hjn)
      have Hx := Lib.hid (show -9223372036854775808 ≤ x ∧ x < 9223372036854775808 by rw [hx]; exact getD_in Hxb.out j)
      have Hy := Lib.hid (show -9223372036854775808 ≤ y ∧ y < 9223372036854775808 by rw [hy]; exact getD_in Hyb.out j)
      obtain ⟨A, hA⟩ : ∃ A : Nat, x.natAbs = A := ⟨_, rfl⟩
      obtain ⟨M, hM⟩ : ∃ M : Nat, y.natAbs = M := ⟨_, rfl⟩
      have HA := Lib.hid (show ((x.natAbs : Nat) : Int) = (A : Int) by rw [hA])
      have HM := Lib.hid (show ((y.natAbs : Nat) : Int) = (M : Int) by rw [hM])
      have HA1 := Lib.hid (show A < 18446744073709551616 by have := Hx.out; omega)
      have HM1 := Lib.hid (show M < 18446744073709551616 by have := Hy.out; omega)
      obtain ⟨sx, hsx⟩ : ∃ b : Bool, decide (x < 0) = b := ⟨_, rfl⟩
      obtain ⟨sy, hsy⟩ : ∃ b : Bool, decide (y < 0) = b := ⟨_, rfl⟩
      obtain ⟨H, hH⟩ : ∃ H : Nat, A * M / 18446744073709551616 = H := ⟨_, rfl⟩
      obtain ⟨L0, hL0⟩ : ∃ H : Nat, A * M % 18446744073709551616 = H := ⟨_, rfl⟩
      have HH := Lib.hid (show ((A * M / 18446744073709551616 : Nat) : Int) = (H : Int) by rw [hH])
      have HL := Lib.hid (show ((A * M % 18446744073709551616 : Nat) : Int) = (L0 : Int) by rw [hL0])
      have HH1 := Lib.hid (show H < 18446744073709551616 by
        have h3 : A * M ≤ 9223372036854775808 * 9223372036854775808 := Nat.mul_le_mul (by have := Hx.out; omega) (by have := Hy.out; omega)
        have e3 : (9223372036854775808 * 9223372036854775808 : Nat) = 85070591730234615865843651857942052864 := by decide
        rw [e3] at h3; omega)
      have HL1 := Lib.hid (show L0 < 18446744073709551616 by rw [← hL0]; exact Nat.mod_lt _ (by decide))
      have HE := Lib.hid (show (∃ k : Int, z + dots xs ys j = (V3 y0 y1 y2 : Int) + k * B3) → ∀ s0 s1 s2 : Nat, (∃ k : Int, (V3 y0 y1 y2 : Int) + (if (sx != sy) = true then -((L0 : Int) + (H : Int) * 18446744073709551616) else (L0 : Int) + (H : Int) * 18446744073709551616) = (V3 s0 s1 s2 : Int) + k * B3) → ∃ k : Int, z + dots xs ys (j + 1) = (V3 s0 s1 s2 : Int) + k * B3 by
        intro h4 s0 s1 s2 h5
        rw [← hsx, ← hsy, ← hH, ← hL0] at h5
        rw [hx] at hA h5
        rw [hy] at hM h5
        exact fr_loop hA hM h4 h5)
      clear hx hy hA hM hH hL0 hbu hbv hcu hcv
      have hd : decide (((j : Nat) : Int) < ((n : Nat) : Int)) = true := decide_eq_true (by omega)
      obtain ⟨ca00, ca01, ca02, fa00, fa01, fa02⟩ := Xa0.out.c3
      have la0 := Xa0.out.lt
      go_wp2_with fail
      clear ca00 ca01 ca02 fa00 fa01 fa02 la0
      have Xa0 := Lib.hid (Box.drew Xa0.out)
      have HB := Lib.hid (Below.drew HB.out)
      refine wp_region_float [] [] (by kernel_rfl) (by kernel_rfl) 98 (by kernel_rfl) Flok.nil ?_
      intro ok
      have Hok := Lib.hid ok
      clear ok
      have HG := Lib.hid (Below.refl (wr.drew).heap.size (wr.drew))
      refine good_pureX 0 (some 30) (Go.Op.move (Go.Operand.tmp 0)) (none) (.slice (some ⟨bu, ou, none⟩) n cu) (by kernel_rfl) (by kernel_rfl) (by kernel_rfl) (fun _ _ _ h => h) (fun w' hw' => ?_) ?_
      · first | (go_simp; done) | (go_simp; simp_all; done) | (go_simp; rfl) | (go_simp; simp [bne]; done)
      simp only [Act.put, List.setIfInBounds_toArray, List.set_cons_zero, List.set_cons_succ]
      refine good_pureX 1 (some 31) (Go.Op.move (Go.Operand.tmp 9)) (none) (.int .i64 ((j : Nat) : Int)) (by kernel_rfl) (by kernel_rfl) (by kernel_rfl) (fun _ _ _ h => h) (fun w' hw' => ?_) ?_
      · first | (go_simp; done) | (go_simp; simp_all; done) | (go_simp; rfl) | (go_simp; simp [bne]; done)
      simp only [Act.put, List.setIfInBounds_toArray, List.set_cons_zero, List.set_cons_succ]
      refine good_pureX 2 (some 32) (Go.Op.indexAddr 39 (Go.Operand.tmp 30) (Go.Operand.tmp 31)) (none) (.pointer (some ⟨bu, ou + j, none⟩)) (by kernel_rfl) (by kernel_rfl) (by kernel_rfl) (fun _ _ _ h => h) (fun w' hw' => ?_) ?_
      · first | (go_simp; done) | (go_simp; simp_all; done) | (go_simp; rfl) | (go_simp; simp [bne]; done)
      simp only [Act.put, List.setIfInBounds_toArray, List.set_cons_zero, List.set_cons_succ]
      refine good_pureX 3 (some 33) (Go.Op.load 2 (Go.Operand.tmp 32)) (none) (.int .i64 x) (by kernel_rfl) (by kernel_rfl) (by kernel_rfl) (fun _ _ _ h => h) (fun w' hw' => ?_) ?_
      · have c1 := SE.cellOf hw' (Nat.lt_of_lt_of_le Lu.out HB.out.size) notin0 ((HB.out.cell (p := ⟨bu, ou + j, none⟩) Lu.out).trans Cu.out)
        first | (go_simp; done) | (go_simp; simp_all; done) | (go_simp; rfl) | (go_simp; simp [bne]; done)
      simp only [Act.put, List.setIfInBounds_toArray, List.set_cons_zero, List.set_cons_succ]
      refine good_pureX 5 (some 35) (Go.Op.move (Go.Operand.tmp 1)) (none) (.slice (some ⟨bv, ov, none⟩) n cv) (by kernel_rfl) (by kernel_rfl) (by kernel_rfl) (fun _ _ _ h => h) (fun w' hw' => ?_) ?_
      · first | (go_simp; done) | (go_simp; simp_all; done) | (go_simp; rfl) | (go_simp; simp [bne]; done)
      simp only [Act.put, List.setIfInBounds_toArray, List.set_cons_zero, List.set_cons_succ]
      refine good_pureX 6 (some 36) (Go.Op.move (Go.Operand.tmp 9)) (none) (.int .i64 ((j : Nat) : Int)) (by kernel_rfl) (by kernel_rfl) (by kernel_rfl) (fun _ _ _ h => h) (fun w' hw' => ?_) ?_
      · first | (go_simp; done) | (go_simp; simp_all; done) | (go_simp; rfl) | (go_simp; simp [bne]; done)
      simp only [Act.put, List.setIfInBounds_toArray, List.set_cons_zero, List.set_cons_succ]
      refine good_pureX 7 (some 37) (Go.Op.indexAddr 39 (Go.Operand.tmp 35) (Go.Operand.tmp 36)) (none) (.pointer (some ⟨bv, ov + j, none⟩)) (by kernel_rfl) (by kernel_rfl) (by kernel_rfl) (fun _ _ _ h => h) (fun w' hw' => ?_) ?_
      · first | (go_simp; done) | (go_simp; simp_all; done) | (go_simp; rfl) | (go_simp; simp [bne]; done)
      simp only [Act.put, List.setIfInBounds_toArray, List.set_cons_zero, List.set_cons_succ]
      refine good_pureX 8 (some 38) (Go.Op.load 2 (Go.Operand.tmp 37)) (none) (.int .i64 y) (by kernel_rfl) (by kernel_rfl) (by kernel_rfl) (fun _ _ _ h => h) (fun w' hw' => ?_) ?_
      · have c1 := SE.cellOf hw' (Nat.lt_of_lt_of_le Lv.out HB.out.size) notin0 ((HB.out.cell (p := ⟨bv, ov + j, none⟩) Lv.out).trans Cv.out)
        first | (go_simp; done) | (go_simp; simp_all; done) | (go_simp; rfl) | (go_simp; simp [bne]; done)
      simp only [Act.put, List.setIfInBounds_toArray, List.set_cons_zero, List.set_cons_succ]
      refine good_callX 4 43 (some 34) #[Go.Operand.tmp 33] #[2] (none) #[.int .i64 x] (by kernel_rfl) Hok.out (by kernel_rfl) (by kernel_rfl) (by kernel_rfl) (by kernel_rfl) rfl rfl rfl (by kernel_rfl) (fun w51 hb => ?_)
      have HG := Lib.hid (below_call HG.out hb)
      clear hb
      refine Calls.mono (val_of (mag_any x _ Hx.out.1 Hx.out.2) (by rw [HA.out])) ?_
      rintro e w52 ⟨v52, rfl, rfl, hb⟩
      refine ⟨_, rfl, ?_, hb⟩
      have HG := Lib.hid (below_call HG.out hb)
      clear hb
      simp only [Act.put, List.setIfInBounds_toArray, List.set_cons_zero, List.set_cons_succ]
      refine good_callX 9 43 (some 39) #[Go.Operand.tmp 38] #[2] (none) #[.int .i64 y] (by kernel_rfl) Hok.out (by kernel_rfl) (by kernel_rfl) (by kernel_rfl) (by kernel_rfl) rfl rfl rfl (by kernel_rfl) (fun w53 hb => ?_)
      have HG := Lib.hid (below_call HG.out hb)
      clear hb
      refine Calls.mono (val_of (mag_any y _ Hy.out.1 Hy.out.2) (by rw [HM.out])) ?_
      rintro e w54 ⟨v54, rfl, rfl, hb⟩
      refine ⟨_, rfl, ?_, hb⟩
      have HG := Lib.hid (below_call HG.out hb)
      clear hb
      simp only [Act.put, List.setIfInBounds_toArray, List.set_cons_zero, List.set_cons_succ]
      refine good_callX 10 42 (some 40) #[Go.Operand.tmp 34, Go.Operand.tmp 39] #[56, 56] (none) #[.int .u64 ((A : Nat) : Int), .int .u64 ((M : Nat) : Int)] (by kernel_rfl) Hok.out (by kernel_rfl) (by kernel_rfl) (by kernel_rfl) (by kernel_rfl) rfl rfl rfl (by kernel_rfl) (fun w55 hb => ?_)
      have HG := Lib.hid (below_call HG.out hb)
      clear hb
      refine Calls.mono (val_of (mul64_any A M HA1.out HM1.out _) (by rw [HH.out, HL.out])) ?_
      rintro e w56 ⟨v56, rfl, rfl, hb⟩
      refine ⟨_, rfl, ?_, hb⟩
      have HG := Lib.hid (below_call HG.out hb)
      clear hb
      simp only [Act.put, List.setIfInBounds_toArray, List.set_cons_zero, List.set_cons_succ]
      refine good_pureX 11 (some 29) (Go.Op.move (Go.Operand.tmp 40)) (none) (.tuple #[.int .u64 ((H : Nat) : Int), .int .u64 ((L0 : Nat) : Int)]) (by kernel_rfl) (by kernel_rfl) (by kernel_rfl) (fun _ _ _ h => h) (fun w' hw' => ?_) ?_
      · first | (go_simp; done) | (go_simp; simp_all; done) | (go_simp; rfl) | (go_simp; simp [bne]; done)
      simp only [Act.put, List.setIfInBounds_toArray, List.set_cons_zero, List.set_cons_succ]
      refine good_pureX 12 (some 41) (Go.Op.extract (Go.Operand.tmp 29) 0) (none) (.int .u64 ((H : Nat) : Int)) (by kernel_rfl) (by kernel_rfl) (by kernel_rfl) (fun _ _ _ h => h) (fun w' hw' => ?_) ?_
      · first | (go_simp; done) | (go_simp; simp_all; done) | (go_simp; rfl) | (go_simp; simp [bne]; done)
      simp only [Act.put, List.setIfInBounds_toArray, List.set_cons_zero, List.set_cons_succ]
      refine good_pureX 13 (some 42) (Go.Op.extract (Go.Operand.tmp 29) 1) (none) (.int .u64 ((L0 : Nat) : Int)) (by kernel_rfl) (by kernel_rfl) (by kernel_rfl) (fun _ _ _ h => h) (fun w' hw' => ?_) ?_
      · first | (go_simp; done) | (go_simp; simp_all; done) | (go_simp; rfl) | (go_simp; simp [bne]; done)
      simp only [Act.put, List.setIfInBounds_toArray, List.set_cons_zero, List.set_cons_succ]
      refine good_pureX 14 (some 10) (Go.Op.assign (Go.Operand.tmp 41)) (none) (.int .u64 ((H : Nat) : Int)) (by kernel_rfl) (by kernel_rfl) (by kernel_rfl) (fun _ _ _ h => h) (fun w' hw' => ?_) ?_
      · first | (go_simp; done) | (go_simp; simp_all; done) | (go_simp; rfl) | (go_simp; simp [bne]; done)
      simp only [Act.put, List.setIfInBounds_toArray, List.set_cons_zero, List.set_cons_succ]
      refine good_pureX 15 (some 11) (Go.Op.assign (Go.Operand.tmp 42)) (none) (.int .u64 ((L0 : Nat) : Int)) (by kernel_rfl) (by kernel_rfl) (by kernel_rfl) (fun _ _ _ h => h) (fun w' hw' => ?_) ?_
      · first | (go_simp; done) | (go_simp; simp_all; done) | (go_simp; rfl) | (go_simp; simp [bne]; done)
      simp only [Act.put, List.setIfInBounds_toArray, List.set_cons_zero, List.set_cons_succ]
      refine good_end0 0 (by kernel_rfl) (fun _ w57 hb => ?_)
      have HG := Lib.hid (below_call HG.out hb)
      clear hb
      have Xa0 := Lib.hid (Box.pcall HG.out Xa0.out)
      have HB := Lib.hid (below_call HB.out HG.out)
      have HS := Lib.hid (SE.of (E := []) HG.out)
      refine wpAnyH_done (by kernel_rfl) ?_ _
      clear HG HS Hok 
      obtain ⟨ca00, ca01, ca02, fa00, fa01, fa02⟩ := Xa0.out.c3
      have la0 := Xa0.out.lt
      go_wp2_with fail
      clear ca00 ca01 ca02 fa00 fa01 fa02 la0
      have Xa0 := Lib.hid (Box.drew Xa0.out)
      have HB := Lib.hid (Below.drew HB.out)
      refine wp_region_float [g] [] (by kernel_rfl) (by kernel_rfl) 98 (by kernel_rfl) Flok.nil ?_
      intro ok
      have Hok := Lib.hid ok
      clear ok
      have HG := Lib.hid (Below.refl (w57.drew).heap.size (w57.drew))
      refine good_pureX 0 (some 43) (Go.Op.move (Go.Operand.tmp 10)) (none) (.int .u64 ((H : Nat) : Int)) (by kernel_rfl) (by kernel_rfl) (by kernel_rfl) (fun _ _ _ h => h) (fun w' hw' => ?_) ?_
      · first | (go_simp; done) | (go_simp; simp_all; done) | (go_simp; rfl) | (go_simp; simp [bne]; done)
      simp only [Act.put, List.setIfInBounds_toArray, List.set_cons_zero, List.set_cons_succ]
      refine good_pureX 1 (some 44) (Go.Op.move (Go.Operand.tmp 11)) (none) (.int .u64 ((L0 : Nat) : Int)) (by kernel_rfl) (by kernel_rfl) (by kernel_rfl) (fun _ _ _ h => h) (fun w' hw' => ?_) ?_
      · first | (go_simp; done) | (go_simp; simp_all; done) | (go_simp; rfl) | (go_simp; simp [bne]; done)
      simp only [Act.put, List.setIfInBounds_toArray, List.set_cons_zero, List.set_cons_succ]
      refine good_pureX 2 (some 45) (Go.Op.move (Go.Operand.tmp 0)) (none) (.slice (some ⟨bu, ou, none⟩) n cu) (by kernel_rfl) (by kernel_rfl) (by kernel_rfl) (fun _ _ _ h => h) (fun w' hw' => ?_) ?_
      · first | (go_simp; done) | (go_simp; simp_all; done) | (go_simp; rfl) | (go_simp; simp [bne]; done)
      simp only [Act.put, List.setIfInBounds_toArray, List.set_cons_zero, List.set_cons_succ]
      refine good_pureX 3 (some 46) (Go.Op.move (Go.Operand.tmp 9)) (none) (.int .i64 ((j : Nat) : Int)) (by kernel_rfl) (by kernel_rfl) (by kernel_rfl) (fun _ _ _ h => h) (fun w' hw' => ?_) ?_
      · first | (go_simp; done) | (go_simp; simp_all; done) | (go_simp; rfl) | (go_simp; simp [bne]; done)
      simp only [Act.put, List.setIfInBounds_toArray, List.set_cons_zero, List.set_cons_succ]
      refine good_pureX 4 (some 47) (Go.Op.indexAddr 39 (Go.Operand.tmp 45) (Go.Operand.tmp 46)) (none) (.pointer (some ⟨bu, ou + j, none⟩)) (by kernel_rfl) (by kernel_rfl) (by kernel_rfl) (fun _ _ _ h => h) (fun w' hw' => ?_) ?_
      · first | (go_simp; done) | (go_simp; simp_all; done) | (go_simp; rfl) | (go_simp; simp [bne]; done)
      simp only [Act.put, List.setIfInBounds_toArray, List.set_cons_zero, List.set_cons_succ]
      refine good_pureX 5 (some 48) (Go.Op.load 2 (Go.Operand.tmp 47)) (none) (.int .i64 x) (by kernel_rfl) (by kernel_rfl) (by kernel_rfl) (fun _ _ _ h => h) (fun w' hw' => ?_) ?_
      · have c1 := SE.cellOf hw' (Nat.lt_of_lt_of_le Lu.out HB.out.size) (notin1 (Nat.ne_of_lt (Nat.lt_of_lt_of_le Lu.out Gg.out))) ((HB.out.cell (p := ⟨bu, ou + j, none⟩) Lu.out).trans Cu.out)
        first | (go_simp; done) | (go_simp; simp_all; done) | (go_simp; rfl) | (go_simp; simp [bne]; done)
      simp only [Act.put, List.setIfInBounds_toArray, List.set_cons_zero, List.set_cons_succ]
      refine good_pureX 6 (some 49) (Go.Op.binOp Go.BinOp.lss 2 (Go.Operand.tmp 48) (Go.Operand.const (Go.Value.int Go.IntKind.i64 0)) 2) (none) (.bool sx) (by kernel_rfl) (by kernel_rfl) (by kernel_rfl) (fun _ _ _ h => h) (fun w' hw' => ?_) ?_
      · first | (go_simp; done) | (go_simp; simp_all; done) | (go_simp; rfl) | (go_simp; simp [bne]; done)
      simp only [Act.put, List.setIfInBounds_toArray, List.set_cons_zero, List.set_cons_succ]
      refine good_pureX 7 (some 50) (Go.Op.move (Go.Operand.tmp 1)) (none) (.slice (some ⟨bv, ov, none⟩) n cv) (by kernel_rfl) (by kernel_rfl) (by kernel_rfl) (fun _ _ _ h => h) (fun w' hw' => ?_) ?_
      · first | (go_simp; done) | (go_simp; simp_all; done) | (go_simp; rfl) | (go_simp; simp [bne]; done)
      simp only [Act.put, List.setIfInBounds_toArray, List.set_cons_zero, List.set_cons_succ]
      refine good_pureX 8 (some 51) (Go.Op.move (Go.Operand.tmp 9)) (none) (.int .i64 ((j : Nat) : Int)) (by kernel_rfl) (by kernel_rfl) (by kernel_rfl) (fun _ _ _ h => h) (fun w' hw' => ?_) ?_
      · first | (go_simp; done) | (go_simp; simp_all; done) | (go_simp; rfl) | (go_simp; simp [bne]; done)
      simp only [Act.put, List.setIfInBounds_toArray, List.set_cons_zero, List.set_cons_succ]
      refine good_pureX 9 (some 52) (Go.Op.indexAddr 39 (Go.Operand.tmp 50) (Go.Operand.tmp 51)) (none) (.pointer (some ⟨bv, ov + j, none⟩)) (by kernel_rfl) (by kernel_rfl) (by kernel_rfl) (fun _ _ _ h => h) (fun w' hw' => ?_) ?_
      · first | (go_simp; done) | (go_simp; simp_all; done) | (go_simp; rfl) | (go_simp; simp [bne]; done)
      simp only [Act.put, List.setIfInBounds_toArray, List.set_cons_zero, List.set_cons_succ]
      refine good_pureX 10 (some 53) (Go.Op.load 2 (Go.Operand.tmp 52)) (none) (.int .i64 y) (by kernel_rfl) (by kernel_rfl) (by kernel_rfl) (fun _ _ _ h => h) (fun w' hw' => ?_) ?_
      · have c1 := SE.cellOf hw' (Nat.lt_of_lt_of_le Lv.out HB.out.size) (notin1 (Nat.ne_of_lt (Nat.lt_of_lt_of_le Lv.out Gg.out))) ((HB.out.cell (p := ⟨bv, ov + j, none⟩) Lv.out).trans Cv.out)
        first | (go_simp; done) | (go_simp; simp_all; done) | (go_simp; rfl) | (go_simp; simp [bne]; done)
      simp only [Act.put, List.setIfInBounds_toArray, List.set_cons_zero, List.set_cons_succ]
      refine good_pureX 11 (some 54) (Go.Op.binOp Go.BinOp.lss 2 (Go.Operand.tmp 53) (Go.Operand.const (Go.Value.int Go.IntKind.i64 0)) 2) (none) (.bool sy) (by kernel_rfl) (by kernel_rfl) (by kernel_rfl) (fun _ _ _ h => h) (fun w' hw' => ?_) ?_
      · first | (go_simp; done) | (go_simp; simp_all; done) | (go_simp; rfl) | (go_simp; simp [bne]; done)
      simp only [Act.put, List.setIfInBounds_toArray, List.set_cons_zero, List.set_cons_succ]
      refine good_pureX 12 (some 55) (Go.Op.binOp Go.BinOp.neq 4 (Go.Operand.tmp 49) (Go.Operand.tmp 54) 4) (none) (.bool (sx != sy)) (by kernel_rfl) (by kernel_rfl) (by kernel_rfl) (fun _ _ _ h => h) (fun w' hw' => ?_) ?_
      · first | (go_simp; done) | (go_simp; simp_all; done) | (go_simp; rfl) | (go_simp; simp [bne]; done)
      simp only [Act.put, List.setIfInBounds_toArray, List.set_cons_zero, List.set_cons_succ]
      refine good_end0 1 (by kernel_rfl) (fun _ w58 hb => ?_)
      have HG := Lib.hid (below_call HG.out hb)
      clear hb
      have Xa0 := Lib.hid (Box.pcall HG.out Xa0.out)
      have HB := Lib.hid (below_call HB.out HG.out)
      have HS := Lib.hid (SE.of (E := [g]) HG.out)
      refine held_callX 13 47 (some 56) #[Go.Operand.tmp 8, Go.Operand.tmp 43, Go.Operand.tmp 44, Go.Operand.tmp 55] #[64, 56, 56, 4] (none) #[.pointer (some ⟨g, 0, none⟩), .int .u64 ((H : Nat) : Int), .int .u64 ((L0 : Nat) : Int), .bool (sx != sy)] (by kernel_rfl) (by kernel_rfl) (by kernel_rfl) rfl rfl rfl (by kernel_rfl) ?_
      refine Calls.mono (sum_any (x0 := y0) (x1 := y1) (x2 := y2) (h := H) (l := L0) Xa0.out Qy.out.1 Qy.out.2.1 Qy.out.2.2 HH1.out HL1.out) ?_
      rintro e w59 ⟨rfl, hwr, s0, s1, s2, q0, q1, q2, xx, hkk⟩
      have Xa0 := Lib.hid (show Box w59 g 64 #[.int .u64 ((s0 : Nat) : Int), .int .u64 ((s1 : Nat) : Int), .int .u64 ((s2 : Nat) : Int)] from xx)
      have HB := Lib.hid (hwr.below HB.out Gg.out)
      have Qs := Lib.hid (And.intro q0 (And.intro q1 q2))
      have Ks := Lib.hid hkk
      refine ⟨_, rfl, HS.out.wr hwr, ?_⟩
      clear hwr xx hkk q0 q1 q2
      simp only [Act.put, List.setIfInBounds_toArray, List.set_cons_zero, List.set_cons_succ]
      refine wpAnyH_done (by kernel_rfl) ?_ _
      clear HG HS Hok 
      obtain ⟨ca00, ca01, ca02, fa00, fa01, fa02⟩ := Xa0.out.c3
      have la0 := Xa0.out.lt
      go_wp2
      clear ca00 ca01 ca02 fa00 fa01 fa02 la0
      go_roundw
      case rel => exact ⟨j + 1, s0, s1, s2, by omega, by go_num, Qs.out, Xa0.out, HE.out Ky.out s0 s1 s2 Ks.out, HB.out⟩
      case measure => simp [intOf] <;> omega
    · obtain rfl : j = n := by omega
      have hd : decide (((j : Nat) : Int) < ((j : Nat) : Int)) = false := decide_eq_false (by omega)
      obtain ⟨Z, hZ⟩ : ∃ Z : Int, Z = z + dots xs ys j := ⟨_, rfl⟩
      have hbd := dots_bd Hxb.out Hyb.out j
      have B1 := Lib.hid (show -1569275433846670190958947355801916604025588861116008628224 ≤ Z by have := Hz1.out; have := Hz2.out; omega)
      have B2 := Lib.hid (show Z ≤ 1569275433846670190958947355801916604025588861116008628224 by have := Hz1.out; have := Hz2.out; omega)
      rw [← hZ] at Hf Ky
      obtain ⟨kz, hkz⟩ := Ky.out
      obtain ⟨f1, f2, f3⟩ := end_pos Qy.out.1 Qy.out.2.1 Qy.out.2.2 hkz B1.out B2.out
      clear hbd hZ hkz
      by_cases hneg : Z < 0
      · have HV := Lib.hid (f3 hneg)
        have Hneg := Lib.hid hneg
        have dn : (((y2 : Nat) : Int) / 9223372036854775808 == 1) = true := beq_iff_eq.2 (by have := f1.2 hneg; omega)
        clear f1 f2 f3 hneg
        obtain ⟨M2, hm2⟩ : ∃ M : Nat, IntKind.u64.wrap (-((y2 : Nat) : Int)) = (M : Int) := ⟨(IntKind.u64.wrap (-((y2 : Nat) : Int))).toNat, by rw [IntKind.wrap_u64]; omega⟩
        obtain ⟨bo, hbo⟩ : ∃ b : Nat, (if y0 = 0 ∧ y1 = 0 then (0 : Int) else 1) = (b : Int) := ⟨if y0 = 0 ∧ y1 = 0 then 0 else 1, by split <;> rfl⟩
        obtain ⟨R2, hr2⟩ : ∃ R : Nat, IntKind.u64.wrap (((M2 : Nat) : Int) - ((bo : Nat) : Int)) = (R : Int) := ⟨(IntKind.u64.wrap (((M2 : Nat) : Int) - ((bo : Nat) : Int))).toNat, by rw [IntKind.wrap_u64]; omega⟩
        have Hbo := Lib.hid hbo
        have HR := Lib.hid (show (R2 : Int) = (-(y2 : Int) - (if y0 = 0 ∧ y1 = 0 then 0 else 1)) % 18446744073709551616 by
          rw [Hbo.out, ← hr2, ← hm2, IntKind.wrap_u64, IntKind.wrap_u64]; omega)
        clear hbo
        obtain ⟨ca00, ca01, ca02, fa00, fa01, fa02⟩ := Xa0.out.c3
        have la0 := Xa0.out.lt
        go_wp2_with fail
        clear ca00 ca01 ca02 fa00 fa01 fa02 la0
        obtain ⟨W51, hW⟩ : ∃ W51, W51 = (World.setCell (World.setCell (World.setCell wr ⟨g, 0, none⟩ (.int .u64 0)) ⟨g, 1, none⟩ (.int .u64 0)) ⟨g, 2, none⟩ (.int .u64 0)) := ⟨_, rfl⟩
        rw [← hW]
        obtain ⟨xa0, hk, hf, hbb, hz⟩ := stu3 hW Xa0.out 
        have Xa0 := Lib.hid xa0
        have HB := Lib.hid (hbb _ HB.out Gg.out)
        clear hW hk hf hbb xa0
        have hz51 := hz
        clear hz
        obtain ⟨W52, hW⟩ : ∃ W52, W52 = (World.alloc W51 (.cells #[.int .u64 ((y0 : Nat) : Int), .int .u64 ((y1 : Nat) : Int), .int .u64 ((y2 : Nat) : Int)] 64)) := ⟨_, rfl⟩
        rw [← hW]
        obtain ⟨xb0, hk, hb⟩ := boxes_1 _ _ _ hW
        clear hW
        rw [hz51] at xb0
        have Na0b0 := Lib.hid (show g ≠ wr.heap.size from Nat.ne_of_lt (Nat.lt_of_lt_of_le Xa0.out.lt (by omega)))
        have Gb0 := Lib.hid (show w.heap.size ≤ wr.heap.size from Nat.le_trans HB.out.size (by omega))
        clear hz51
        have Xa0 := Lib.hid (Box.pcall hb Xa0.out)
        have Xb0 := Lib.hid xb0
        have HB := Lib.hid (below_call HB.out hb)
        clear hk hb xb0
        refine Calls.mono (sum_any (x0 := 0) (x1 := 0) (x2 := 0) (h := y1) (l := y0) Xa0.out (by decide) (by decide) (by decide) Qy.out.2.1 Qy.out.1) ?_
        rintro e w53 ⟨rfl, hwr, s0, s1, s2, q0, q1, q2, xx, hkk⟩
        have Xb0 := Lib.hid (hwr.box Xb0.out Na0b0.out.symm)
        have Xa0 := Lib.hid (show Box w53 g 64 #[.int .u64 ((s0 : Nat) : Int), .int .u64 ((s1 : Nat) : Int), .int .u64 ((s2 : Nat) : Int)] from xx)
        have HB := Lib.hid (hwr.below HB.out Gg.out)
        have Qs := Lib.hid (And.intro q0 (And.intro q1 q2))
        have Ks := Lib.hid hkk
        clear hwr xx hkk q0 q1 q2
        obtain ⟨ca00, ca01, ca02, fa00, fa01, fa02⟩ := Xa0.out.c3
        have la0 := Xa0.out.lt
        obtain ⟨cb00, cb01, cb02, fb00, fb01, fb02⟩ := Xb0.out.c3
        have lb0 := Xb0.out.lt
        go_wp2_with fail
        clear ca00 ca01 ca02 fa00 fa01 fa02 la0 cb00 cb01 cb02 fb00 fb01 fb02 lb0
        have Xa0 := Lib.hid (Box.drew Xa0.out)
        have Xb0 := Lib.hid (Box.drew Xb0.out)
        have HB := Lib.hid (Below.drew HB.out)
        refine wp_region_float [g] [] (by kernel_rfl) (by kernel_rfl) 98 (by kernel_rfl) Flok.nil ?_
        intro ok
        have Hok := Lib.hid ok
        clear ok
        have HG := Lib.hid (Below.refl (w53.drew).heap.size (w53.drew))
        refine good_pureX 0 (some 70) (Go.Op.indexAddr 64 (Go.Operand.tmp 13) (Go.Operand.const (Go.Value.int Go.IntKind.i64 2))) (none) (.pointer (some ⟨wr.heap.size, 2, none⟩)) (by kernel_rfl) (by kernel_rfl) (by kernel_rfl) (fun _ _ _ h => h) (fun w' hw' => ?_) ?_
        · first | (go_simp; done) | (go_simp; simp_all; done) | (go_simp; rfl) | (go_simp; simp [bne]; done)
        simp only [Act.put, List.setIfInBounds_toArray, List.set_cons_zero, List.set_cons_succ]
        refine good_pureX 1 (some 71) (Go.Op.load 56 (Go.Operand.tmp 70)) (none) (.int .u64 ((y2 : Nat) : Int)) (by kernel_rfl) (by kernel_rfl) (by kernel_rfl) (fun _ _ _ h => h) (fun w' hw' => ?_) ?_
        · obtain ⟨cb00, cb01, cb02, fb00, fb01, fb02⟩ := (Box.se hw' Xb0.out (notin1 Na0b0.out.symm)).c3
          first | (go_simp; done) | (go_simp; simp_all; done) | (go_simp; rfl) | (go_simp; simp [bne]; done)
        simp only [Act.put, List.setIfInBounds_toArray, List.set_cons_zero, List.set_cons_succ]
        refine good_pureX 2 (some 72) (Go.Op.unOp Go.UnOp.neg 56 (Go.Operand.tmp 71)) (none) (.int .u64 ((M2 : Nat) : Int)) (by kernel_rfl) (by kernel_rfl) (by kernel_rfl) (fun _ _ _ h => h) (fun w' hw' => ?_) ?_
        · first | (go_simp; done) | (go_simp; simp_all; done) | (go_simp; rfl) | (go_simp; simp [bne]; done)
        simp only [Act.put, List.setIfInBounds_toArray, List.set_cons_zero, List.set_cons_succ]
        refine good_pureX 3 (some 73) (Go.Op.load 64 (Go.Operand.tmp 13)) (none) (.agg #[.int .u64 ((y0 : Nat) : Int), .int .u64 ((y1 : Nat) : Int), .int .u64 ((y2 : Nat) : Int)]) (by kernel_rfl) (by kernel_rfl) (by kernel_rfl) (fun _ _ _ h => h) (fun w' hw' => ?_) ?_
        · obtain ⟨cb00, cb01, cb02, fb00, fb01, fb02⟩ := (Box.se hw' Xb0.out (notin1 Na0b0.out.symm)).c3
          first | (go_simp; done) | (go_simp; simp_all; done) | (go_simp; rfl) | (go_simp; simp [bne]; done)
        simp only [Act.put, List.setIfInBounds_toArray, List.set_cons_zero, List.set_cons_succ]
        refine good_callX 4 48 (some 74) #[Go.Operand.tmp 73] #[64] (none) #[.agg #[.int .u64 ((y0 : Nat) : Int), .int .u64 ((y1 : Nat) : Int), .int .u64 ((y2 : Nat) : Int)]] (by kernel_rfl) Hok.out (by kernel_rfl) (by kernel_rfl) (by kernel_rfl) (by kernel_rfl) rfl rfl rfl (by kernel_rfl) (fun w54 hb => ?_)
        have HG := Lib.hid (below_call HG.out hb)
        clear hb
        refine Calls.mono (val_of (borrow_any (x0 := y0) (x1 := y1) (x2 := y2) Qy.out.1 Qy.out.2.1) (by rw [Hbo.out])) ?_
        rintro e w55 ⟨v55, rfl, rfl, hb⟩
        refine ⟨_, rfl, ?_, hb⟩
        have HG := Lib.hid (below_call HG.out hb)
        clear hb
        simp only [Act.put, List.setIfInBounds_toArray, List.set_cons_zero, List.set_cons_succ]
        refine good_pureX 5 (some 75) (Go.Op.binOp Go.BinOp.sub 56 (Go.Operand.tmp 72) (Go.Operand.tmp 74) 56) (none) (.int .u64 ((R2 : Nat) : Int)) (by kernel_rfl) (by kernel_rfl) (by kernel_rfl) (fun _ _ _ h => h) (fun w' hw' => ?_) ?_
        · first | (go_simp; done) | (go_simp; simp_all; done) | (go_simp; rfl) | (go_simp; simp [bne]; done)
        simp only [Act.put, List.setIfInBounds_toArray, List.set_cons_zero, List.set_cons_succ]
        refine good_pureX 6 (some 76) (Go.Op.indexAddr 64 (Go.Operand.tmp 8) (Go.Operand.const (Go.Value.int Go.IntKind.i64 2))) (none) (.pointer (some ⟨g, 2, none⟩)) (by kernel_rfl) (by kernel_rfl) (by kernel_rfl) (fun _ _ _ h => h) (fun w' hw' => ?_) ?_
        · first | (go_simp; done) | (go_simp; simp_all; done) | (go_simp; rfl) | (go_simp; simp [bne]; done)
        simp only [Act.put, List.setIfInBounds_toArray, List.set_cons_zero, List.set_cons_succ]
        refine good_end0 1 (by kernel_rfl) (fun _ w56 hb => ?_)
        have HG := Lib.hid (below_call HG.out hb)
        clear hb
        have Xa0 := Lib.hid (Box.pcall HG.out Xa0.out)
        have Xb0 := Lib.hid (Box.pcall HG.out Xb0.out)
        have HB := Lib.hid (below_call HB.out HG.out)
        have HS := Lib.hid (SE.of (E := [g]) HG.out)
        refine held_oneX 7 (Go.Op.store 56 (Go.Operand.tmp 76) (Go.Operand.tmp 75)) (none) (World.setCell w56 ⟨g, 2, none⟩ (.int .u64 ((R2 : Nat) : Int))) (by kernel_rfl) (by kernel_rfl) (by kernel_rfl) (by kernel_rfl) ?_ (HS.out.store in1) ?_
        · obtain ⟨ca00, ca01, ca02, fa00, fa01, fa02⟩ := Xa0.out.c3
          first | (go_simp; done) | (go_simp; simp_all; done) | (go_simp; rfl) | (go_simp; simp [bne]; done)
        obtain ⟨W57, hW⟩ : ∃ W57, W57 = (World.setCell w56 ⟨g, 2, none⟩ (.int .u64 ((R2 : Nat) : Int))) := ⟨_, rfl⟩
        rw [← hW]
        obtain ⟨xa0, hk, hf, hbb, hz⟩ := stu3_2 hW Xa0.out 
        have Xa0 := Lib.hid xa0
        have Xb0 := Lib.hid (hf _ _ _ Xb0.out Na0b0.out.symm)
        have HB := Lib.hid (hbb _ HB.out Gg.out)
        have HS := Lib.hid (show SE (w53.drew) [g] W57 from by rw [hW]; exact HS.out.store in1)
        clear hW hk hf hbb xa0
        clear hz
        refine wpAnyH_done (by kernel_rfl) ?_ _
        clear HG HS Hok 
        obtain ⟨ks, hks⟩ := Ks.out
        have hE := end_neg Qy.out.1 Qy.out.2.1 Qy.out.2.2 HV.out Hneg.out B1.out Qs.out.1 Qs.out.2.1 Qs.out.2.2 (by simpa using hks)
        rw [← HR.out] at hE
        have HZ := Lib.hid hE
        clear hE hks
        by_cases dh : 0 < R2
        · obtain ⟨rfl, rfl⟩ := RVz_big Hf.out (neg_big HZ.out (.inl dh))
          have dh : decide (0 < ((R2 : Nat) : Int)) = true := d_t0 dh
          obtain ⟨ca00, ca01, ca02, fa00, fa01, fa02⟩ := Xa0.out.c3
          have la0 := Xa0.out.lt
          obtain ⟨cb00, cb01, cb02, fb00, fb01, fb02⟩ := Xb0.out.c3
          have lb0 := Xb0.out.lt
          go_wp2
          clear ca00 ca01 ca02 fa00 fa01 fa02 la0 cb00 cb01 cb02 fb00 fb01 fb02 lb0
          exact ret_tt rfl rfl rfl rfl rfl HB.out
        · by_cases dm : 0 < s1
          · obtain ⟨rfl, rfl⟩ := RVz_big Hf.out (neg_big HZ.out (.inr (.inl dm)))
            have dh : decide (0 < ((R2 : Nat) : Int)) = false := d_f0 dh
            have dm : decide (0 < ((s1 : Nat) : Int)) = true := d_t0 dm
            obtain ⟨ca00, ca01, ca02, fa00, fa01, fa02⟩ := Xa0.out.c3
            have la0 := Xa0.out.lt
            obtain ⟨cb00, cb01, cb02, fb00, fb01, fb02⟩ := Xb0.out.c3
            have lb0 := Xb0.out.lt
            go_wp2
            clear ca00 ca01 ca02 fa00 fa01 fa02 la0 cb00 cb01 cb02 fb00 fb01 fb02 lb0
            exact ret_tt rfl rfl rfl rfl rfl HB.out
          · by_cases dl : 4611686018427387904 < s0
            · obtain ⟨rfl, rfl⟩ := RVz_big Hf.out (neg_big HZ.out (.inr (.inr dl)))
              have dh : decide (0 < ((R2 : Nat) : Int)) = false := d_f0 dh
              have dm : decide (0 < ((s1 : Nat) : Int)) = false := d_f0 dm
              have dl : decide (4611686018427387904 < ((s0 : Nat) : Int)) = true := d_t62 dl
              obtain ⟨ca00, ca01, ca02, fa00, fa01, fa02⟩ := Xa0.out.c3
              have la0 := Xa0.out.lt
              obtain ⟨cb00, cb01, cb02, fb00, fb01, fb02⟩ := Xb0.out.c3
              have lb0 := Xb0.out.lt
              go_wp2
              clear ca00 ca01 ca02 fa00 fa01 fa02 la0 cb00 cb01 cb02 fb00 fb01 fb02 lb0
              exact ret_tt rfl rfl rfl rfl rfl HB.out
            · obtain ⟨h7, h8⟩ := neg_ok HZ.out dh dm dl
              obtain ⟨h9, rfl⟩ := RVz_ok Hf.out h7
              obtain rfl : -((s0 : Nat) : Int) = a := h8.symm.trans h9
              have h10 := s0_bd dl
              have dh : decide (0 < ((R2 : Nat) : Int)) = false := d_f0 dh
              have dm : decide (0 < ((s1 : Nat) : Int)) = false := d_f0 dm
              have dl : decide (4611686018427387904 < ((s0 : Nat) : Int)) = false := d_f62 dl
              obtain ⟨k1, k2, k3, k4⟩ := h10
              clear h7 h8 h9
              obtain ⟨ca00, ca01, ca02, fa00, fa01, fa02⟩ := Xa0.out.c3
              have la0 := Xa0.out.lt
              obtain ⟨cb00, cb01, cb02, fb00, fb01, fb02⟩ := Xb0.out.c3
              have lb0 := Xb0.out.lt
              go_wp2
              clear ca00 ca01 ca02 fa00 fa01 fa02 la0 cb00 cb01 cb02 fb00 fb01 fb02 lb0
              exact ret_tt rfl rfl rfl rfl rfl HB.out
      · have HZ := Lib.hid (f2 (by omega))
        have dn : (((y2 : Nat) : Int) / 9223372036854775808 == 1) = false := beq_eq_false_iff_ne.2 (by have := mt f1.1 hneg; omega)
        clear f1 f2 f3 hneg
        by_cases dh : 0 < y2
        · obtain ⟨rfl, rfl⟩ := RVz_big Hf.out (pos_big HZ.out (.inl dh))
          have dh : decide (0 < ((y2 : Nat) : Int)) = true := d_t0 dh
          obtain ⟨ca00, ca01, ca02, fa00, fa01, fa02⟩ := Xa0.out.c3
          have la0 := Xa0.out.lt
          go_wp2
          clear ca00 ca01 ca02 fa00 fa01 fa02 la0
          exact ret_tt rfl rfl rfl rfl rfl HB.out
        · by_cases dm : 0 < y1
          · obtain ⟨rfl, rfl⟩ := RVz_big Hf.out (pos_big HZ.out (.inr (.inl dm)))
            have dh : decide (0 < ((y2 : Nat) : Int)) = false := d_f0 dh
            have dm : decide (0 < ((y1 : Nat) : Int)) = true := d_t0 dm
            obtain ⟨ca00, ca01, ca02, fa00, fa01, fa02⟩ := Xa0.out.c3
            have la0 := Xa0.out.lt
            go_wp2
            clear ca00 ca01 ca02 fa00 fa01 fa02 la0
            exact ret_tt rfl rfl rfl rfl rfl HB.out
          · by_cases dl : 4611686018427387904 < y0
            · obtain ⟨rfl, rfl⟩ := RVz_big Hf.out (pos_big HZ.out (.inr (.inr dl)))
              have dh : decide (0 < ((y2 : Nat) : Int)) = false := d_f0 dh
              have dm : decide (0 < ((y1 : Nat) : Int)) = false := d_f0 dm
              have dl : decide (4611686018427387904 < ((y0 : Nat) : Int)) = true := d_t62 dl
              obtain ⟨ca00, ca01, ca02, fa00, fa01, fa02⟩ := Xa0.out.c3
              have la0 := Xa0.out.lt
              go_wp2
              clear ca00 ca01 ca02 fa00 fa01 fa02 la0
              exact ret_tt rfl rfl rfl rfl rfl HB.out
            · obtain ⟨h7, h8⟩ := pos_ok HZ.out dh dm dl
              obtain ⟨h9, rfl⟩ := RVz_ok Hf.out h7
              obtain rfl : ((y0 : Nat) : Int) = a := h8.symm.trans h9
              obtain ⟨k1, k2, -, -⟩ := s0_bd dl
              have dh : decide (0 < ((y2 : Nat) : Int)) = false := d_f0 dh
              have dm : decide (0 < ((y1 : Nat) : Int)) = false := d_f0 dm
              have dl : decide (4611686018427387904 < ((y0 : Nat) : Int)) = false := d_f62 dl
              clear h7 h8 h9
              obtain ⟨ca00, ca01, ca02, fa00, fa01, fa02⟩ := Xa0.out.c3
              have la0 := Xa0.out.lt
              go_wp2
              clear ca00 ca01 ca02 fa00 fa01 fa02 la0
              exact ret_tt rfl rfl rfl rfl rfl HB.out

end Go.Proofs.Ytfffehmkohcgcaa
