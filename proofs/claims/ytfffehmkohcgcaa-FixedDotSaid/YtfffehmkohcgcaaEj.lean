/- Texts FixH, in this order. -/
import Derived.Test.YtfffehmkohcgcaaEh
import Derived.Test.YtfffehmkohcgcaaEi
namespace Go.Proofs.Ytfffehmkohcgcaa
open Go.RowKit Nt
set_option linter.unusedVariables false
theorem fdot_any {pu pv : Option Addr} {n cu cv : Nat} {xs ys : List Int} {z a e : Int} {w : World} (hu : Si w (.slice pu n cu) xs) (hv : Si w (.slice pv n cv) ys) (hz1 : -9223372036854775808 ≤ z) (hz2 : z < 9223372036854775808) (hf : RV ((z + dots xs ys n : Int) : Rat) = (a, e)) :
    Calls Try.prog 20 #[.slice pu n cu, .slice pv n cv, .int .i64 z] w (Ret w (Val (.tuple #[.int .i64 a, .int .i64 e]))) := fdot_t hu hv hz1 hz2 hf
theorem Si.of2 {g : Nat} {T : TypeId} {x y : Int} {w : World} (X : Box w g T #[.int .i64 x, .int .i64 y]) (hx : -9223372036854775808 ≤ x ∧ x < 9223372036854775808) (hy : -9223372036854775808 ≤ y ∧ y < 9223372036854775808) : Si w (.slice (some ⟨g, 0, none⟩) 2 2) [x, y] := by
  refine ⟨_, _, _, rfl, rfl, by decide, ?_, fun _ => ⟨g, 0, rfl, X.lt, fun i hi => ?_⟩⟩
  · intro z hz
    rcases List.mem_cons.1 hz with rfl | hz
    · exact hx
    · rw [List.mem_singleton.1 hz]; exact hy
  · match i, hi with
    | 0, _ => exact X.cell 0 rfl
    | 1, _ => exact X.cell 1 rfl
    | i + 2, hi => exact absurd hi (by omega)
theorem fdot_lit {g h : Nat} {T T' : TypeId} {w : World} (X : Box w g T #[.int .i64 1, .int .i64 2]) (Y : Box w h T' #[.int .i64 3, .int .i64 4]) :
    Calls Try.prog 20 #[.slice (some ⟨g, 0, none⟩) 2 2, .slice (some ⟨h, 0, none⟩) 2 2, .int .i64 5] w (Ret w (Val (.tuple #[.int .i64 16, .int .i64 0]))) :=
  fdot_any (Si.of2 X (by decide) (by decide)) (Si.of2 Y (by decide) (by decide)) (by decide) (by decide) (by decide +kernel)
/-- What small answers of a number. -/
def SV (B : Bool) (w : World) (v : Value) : Prop := ∃ b s n c t m e, v = .agg #[.bool b, .slice s n c, .slice t m e] ∧ ((5 < n ∨ 5 < m) ∧ B = false ∨ (n ≤ 5 ∧ m ≤ 5) ∧ ∃ xs ys q, Sl w (.slice s n c) xs ∧ Sl w (.slice t m e) ys ∧ AR q 5 w v ∧ vB b xs ys q = B)
theorem SV.keep {B : Bool} {w w' : World} {v : Value} (h : SV B w v) (k : Keep w w') : SV B w' v := by
  obtain ⟨b, s, n, c, t, m, e, h1, h2⟩ := h
  refine ⟨b, s, n, c, t, m, e, h1, ?_⟩
  rcases h2 with h2 | ⟨h2, xs, ys, q, h3, h4, h5, h6⟩
  · exact .inl h2
  · exact .inr ⟨h2, xs, ys, q, h3.keep k, h4.keep k, h5.keep k, h6⟩

set_option maxRecDepth 100000 in
set_option maxHeartbeats 4000000 in
theorem awake51  {w : World}  :
    Calls Try.prog 10 #[] w (Ret w (Val (.bool true))) := by
  go_enter Try.func10, Try.ntmps10
  have HB := Lib.hid (Below.refl w.heap.size w)
  go_wp2_with fail
  refine Calls.mono (zfrac_1 (x := -5) (y := 2) (by decide) (by decide) (by decide) (by decide) (by decide)) ?_
  rintro e w1 ⟨t1, rfl, ⟨v1, rfl, hx1⟩, hb⟩
  obtain ⟨x1_b, x1_a, x1_n, x1_c, x1_d, x1_m, x1_e, rfl⟩ := hx1.litb
  have HB := Lib.hid (below_call HB.out hb)
  have Hx1 := Lib.hid hx1
  clear hb hx1
  go_wp2_with fail
  obtain ⟨W2, hW⟩ : ∃ W2, W2 = (World.alloc w1 (.cells #[.bool x1_b, .slice x1_a x1_n x1_c, .slice x1_d x1_m x1_e] 25)) := ⟨_, rfl⟩
  rw [← hW]
  obtain ⟨xa0, hk, hb⟩ := boxes_1 _ _ _ hW
  clear hW
  have Hx1 := Lib.hid (CR.keep Hx1.out hk)
  have Ga0 := Lib.hid (show w.heap.size ≤ w1.heap.size from Nat.le_trans HB.out.size (by omega))
  have Xa0 := Lib.hid xa0
  have HB := Lib.hid (below_call HB.out hb)
  clear hk hb xa0
  refine Calls.mono (zfrac_1 (x := 3) (y := 8) (by decide) (by decide) (by decide) (by decide) (by decide)) ?_
  rintro e w3 ⟨t3, rfl, ⟨v3, rfl, hy1⟩, hb⟩
  obtain ⟨y1_b, y1_a, y1_n, y1_c, y1_d, y1_m, y1_e, rfl⟩ := hy1.litb
  have Hx1 := Lib.hid (CR.keep Hx1.out (Keep.call hb))
  have Xa0 := Lib.hid (Box.pcall hb Xa0.out)
  have HB := Lib.hid (below_call HB.out hb)
  have Hy1 := Lib.hid hy1
  clear hb hy1
  obtain ⟨ca00, ca01, ca02, fa00, fa01, fa02⟩ := Xa0.out.c3
  have la0 := Xa0.out.lt
  go_wp2_with fail
  clear ca00 ca01 ca02 fa00 fa01 fa02 la0
  obtain ⟨W4, hW⟩ : ∃ W4, W4 = (World.alloc w3 (.cells #[.bool y1_b, .slice y1_a y1_n y1_c, .slice y1_d y1_m y1_e] 25)) := ⟨_, rfl⟩
  rw [← hW]
  obtain ⟨xb0, hk, hb⟩ := boxes_1 _ _ _ hW
  clear hW
  have Hx1 := Lib.hid (CR.keep Hx1.out hk)
  have Hy1 := Lib.hid (CR.keep Hy1.out hk)
  have Na0b0 := Lib.hid (show w1.heap.size ≠ w3.heap.size from Nat.ne_of_lt (Nat.lt_of_lt_of_le Xa0.out.lt (by omega)))
  have Gb0 := Lib.hid (show w.heap.size ≤ w3.heap.size from Nat.le_trans HB.out.size (by omega))
  have Xa0 := Lib.hid (Box.pcall hb Xa0.out)
  have Xb0 := Lib.hid xb0
  have HB := Lib.hid (below_call HB.out hb)
  clear hk hb xb0
  (first | (have hcall := fround_ar (s := 0) (a := -3) (e := 0) (by decide +kernel) Hx1.out.ar (by decide); refine Calls.mono hcall ?_; clear hcall) | refine Calls.mono (fround_ar (s := 0) (a := -3) (e := 0) (by decide +kernel) Hx1.out.ar (by decide)) ?_)
  rintro e w5 ⟨v5, rfl, rfl, hb⟩
  have Hy1 := Lib.hid (CR.keep Hy1.out (Keep.call hb))
  have Xa0 := Lib.hid (Box.pcall hb Xa0.out)
  have Xb0 := Lib.hid (Box.pcall hb Xb0.out)
  have HB := Lib.hid (below_call HB.out hb)
  clear hb
  obtain ⟨ca00, ca01, ca02, fa00, fa01, fa02⟩ := Xa0.out.c3
  have la0 := Xa0.out.lt
  obtain ⟨cb00, cb01, cb02, fb00, fb01, fb02⟩ := Xb0.out.c3
  have lb0 := Xb0.out.lt
  go_wp2_with fail
  clear ca00 ca01 ca02 fa00 fa01 fa02 la0 cb00 cb01 cb02 fb00 fb01 fb02 lb0
  (first | (have hcall := fround_ar (s := 2) (a := 2) (e := 0) (by decide +kernel) Hy1.out.ar (by decide); refine Calls.mono hcall ?_; clear hcall) | refine Calls.mono (fround_ar (s := 2) (a := 2) (e := 0) (by decide +kernel) Hy1.out.ar (by decide)) ?_)
  rintro e w6 ⟨v6, rfl, rfl, hb⟩
  have Xa0 := Lib.hid (Box.pcall hb Xa0.out)
  have Xb0 := Lib.hid (Box.pcall hb Xb0.out)
  have HB := Lib.hid (below_call HB.out hb)
  clear hb
  obtain ⟨ca00, ca01, ca02, fa00, fa01, fa02⟩ := Xa0.out.c3
  have la0 := Xa0.out.lt
  obtain ⟨cb00, cb01, cb02, fb00, fb01, fb02⟩ := Xb0.out.c3
  have lb0 := Xb0.out.lt
  go_wp2_with fail
  clear ca00 ca01 ca02 fa00 fa01 fa02 la0 cb00 cb01 cb02 fb00 fb01 fb02 lb0
  refine Calls.mono (fscale_any (a := -7) (m := 3) (s := 3) (x := -3) (e := 0) (by decide) (by decide) (by decide) (by decide) (by decide +kernel)) ?_
  rintro e w7 ⟨v7, rfl, rfl, hb⟩
  have Xa0 := Lib.hid (Box.pcall hb Xa0.out)
  have Xb0 := Lib.hid (Box.pcall hb Xb0.out)
  have HB := Lib.hid (below_call HB.out hb)
  clear hb
  obtain ⟨ca00, ca01, ca02, fa00, fa01, fa02⟩ := Xa0.out.c3
  have la0 := Xa0.out.lt
  obtain ⟨cb00, cb01, cb02, fb00, fb01, fb02⟩ := Xb0.out.c3
  have lb0 := Xb0.out.lt
  go_wp2_with fail
  clear ca00 ca01 ca02 fa00 fa01 fa02 la0 cb00 cb01 cb02 fb00 fb01 fb02 lb0
  obtain ⟨W8, hW⟩ : ∃ W8, W8 = (World.alloc (World.alloc w7 (.cells #[.int .i64 1, .int .i64 2] 2)) (.cells #[.int .i64 3, .int .i64 4] 2)) := ⟨_, rfl⟩
  rw [← hW]
  obtain ⟨xc0, xd0, hk, hb⟩ := boxes_2 _ _ _ _ _ hW
  clear hW
  have Na0c0 := Lib.hid (show w1.heap.size ≠ w7.heap.size from Nat.ne_of_lt (Nat.lt_of_lt_of_le Xa0.out.lt (by omega)))
  have Nb0c0 := Lib.hid (show w3.heap.size ≠ w7.heap.size from Nat.ne_of_lt (Nat.lt_of_lt_of_le Xb0.out.lt (by omega)))
  have Gc0 := Lib.hid (show w.heap.size ≤ w7.heap.size from Nat.le_trans HB.out.size (by omega))
  have Na0d0 := Lib.hid (show w1.heap.size ≠ w7.heap.size + 1 from Nat.ne_of_lt (Nat.lt_of_lt_of_le Xa0.out.lt (by omega)))
  have Nb0d0 := Lib.hid (show w3.heap.size ≠ w7.heap.size + 1 from Nat.ne_of_lt (Nat.lt_of_lt_of_le Xb0.out.lt (by omega)))
  have Gd0 := Lib.hid (show w.heap.size ≤ w7.heap.size + 1 from Nat.le_trans HB.out.size (by omega))
  have Xa0 := Lib.hid (Box.pcall hb Xa0.out)
  have Xb0 := Lib.hid (Box.pcall hb Xb0.out)
  have Xc0 := Lib.hid xc0
  have Xd0 := Lib.hid xd0
  have HB := Lib.hid (below_call HB.out hb)
  clear hk hb xc0 xd0
  refine Calls.mono (fdot_lit Xc0.out Xd0.out) ?_
  rintro e w9 ⟨v9, rfl, rfl, hb⟩
  have Xa0 := Lib.hid (Box.pcall hb Xa0.out)
  have Xb0 := Lib.hid (Box.pcall hb Xb0.out)
  have Xc0 := Lib.hid (Box.pcall hb Xc0.out)
  have Xd0 := Lib.hid (Box.pcall hb Xd0.out)
  have HB := Lib.hid (below_call HB.out hb)
  clear hb
  obtain ⟨ca00, ca01, ca02, fa00, fa01, fa02⟩ := Xa0.out.c3
  have la0 := Xa0.out.lt
  obtain ⟨cb00, cb01, cb02, fb00, fb01, fb02⟩ := Xb0.out.c3
  have lb0 := Xb0.out.lt
  obtain ⟨cc00, cc01, fc00, fc01⟩ := Xc0.out.c2
  have lc0 := Xc0.out.lt
  obtain ⟨cd00, cd01, fd00, fd01⟩ := Xd0.out.c2
  have ld0 := Xd0.out.lt
  go_wp2_with fail
  clear ca00 ca01 ca02 fa00 fa01 fa02 la0 cb00 cb01 cb02 fb00 fb01 fb02 lb0 cc00 cc01 fc00 fc01 lc0 cd00 cd01 fd00 fd01 ld0
  refine Calls.mono (val_of (fsat_any 300 8 _) (by rw [show satZ 300 8 = 127 by decide +kernel])) ?_
  rintro e w10 ⟨v10, rfl, rfl, hb⟩
  have Xa0 := Lib.hid (Box.pcall hb Xa0.out)
  have Xb0 := Lib.hid (Box.pcall hb Xb0.out)
  have Xc0 := Lib.hid (Box.pcall hb Xc0.out)
  have Xd0 := Lib.hid (Box.pcall hb Xd0.out)
  have HB := Lib.hid (below_call HB.out hb)
  clear hb
  obtain ⟨ca00, ca01, ca02, fa00, fa01, fa02⟩ := Xa0.out.c3
  have la0 := Xa0.out.lt
  obtain ⟨cb00, cb01, cb02, fb00, fb01, fb02⟩ := Xb0.out.c3
  have lb0 := Xb0.out.lt
  obtain ⟨cc00, cc01, fc00, fc01⟩ := Xc0.out.c2
  have lc0 := Xc0.out.lt
  obtain ⟨cd00, cd01, fd00, fd01⟩ := Xd0.out.c2
  have ld0 := Xd0.out.lt
  go_wp2
  clear ca00 ca01 ca02 fa00 fa01 fa02 la0 cb00 cb01 cb02 fb00 fb01 fb02 lb0 cc00 cc01 fc00 fc01 lc0 cd00 cd01 fd00 fd01 ld0
  go_ret
  exact ⟨_, rfl, rfl, HB.out⟩


set_option maxRecDepth 100000 in
set_option maxHeartbeats 4000000 in
theorem small_n1 {bx : Bool} {sx tx : Option Addr} {nx cx mx ex : Nat}  {w : World} (h1 : decide ((nx : Int) ≤ 5) = false) :
    Calls Try.prog 11 #[.agg #[.bool bx, .slice sx nx cx, .slice tx mx ex]] w (Ret w (Val (.bool false))) := by
  go_enter Try.func11, Try.ntmps11
  have HB := Lib.hid (Below.refl w.heap.size w)
  go_wp2
  obtain ⟨W1, hW⟩ : ∃ W1, W1 = (World.alloc w (.cells #[.bool bx, .slice sx nx cx, .slice tx mx ex] 25)) := ⟨_, rfl⟩
  rw [← hW]
  obtain ⟨xa0, hk, hb⟩ := boxes_1 _ _ _ hW
  clear hW
  have Ga0 := Lib.hid (show w.heap.size ≤ w.heap.size from Nat.le_trans HB.out.size (by omega))
  have Xa0 := Lib.hid xa0
  have HB := Lib.hid (below_call HB.out hb)
  clear hk hb xa0
  go_ret
  exact ⟨_, rfl, rfl, HB.out⟩


set_option maxRecDepth 100000 in
set_option maxHeartbeats 4000000 in
theorem small_n2 {bx : Bool} {sx tx : Option Addr} {nx cx mx ex : Nat}  {w : World} (h1 : decide ((nx : Int) ≤ 5) = true) (h2 : decide ((mx : Int) ≤ 5) = false) :
    Calls Try.prog 11 #[.agg #[.bool bx, .slice sx nx cx, .slice tx mx ex]] w (Ret w (Val (.bool false))) := by
  go_enter Try.func11, Try.ntmps11
  have HB := Lib.hid (Below.refl w.heap.size w)
  go_wp2
  obtain ⟨W1, hW⟩ : ∃ W1, W1 = (World.alloc w (.cells #[.bool bx, .slice sx nx cx, .slice tx mx ex] 25)) := ⟨_, rfl⟩
  rw [← hW]
  obtain ⟨xa0, hk, hb⟩ := boxes_1 _ _ _ hW
  clear hW
  have Ga0 := Lib.hid (show w.heap.size ≤ w.heap.size from Nat.le_trans HB.out.size (by omega))
  have Xa0 := Lib.hid xa0
  have HB := Lib.hid (below_call HB.out hb)
  clear hk hb xa0
  go_ret
  exact ⟨_, rfl, rfl, HB.out⟩


set_option maxRecDepth 100000 in
set_option maxHeartbeats 4000000 in
theorem small_y {qx : Rat} {bx : Bool} {sx tx : Option Addr} {nx cx mx ex : Nat}  {w : World} (h1 : decide ((nx : Int) ≤ 5) = true) (h2 : decide ((mx : Int) ≤ 5) = true) {xs ys : List Nat} {B : Bool} (hvb : vB bx xs ys qx = B) (hxs : Sl w (.slice sx nx cx) xs) (hys : Sl w (.slice tx mx ex) ys) (hx : AR qx 5 w (.agg #[.bool bx, .slice sx nx cx, .slice tx mx ex])) :
    Calls Try.prog 11 #[.agg #[.bool bx, .slice sx nx cx, .slice tx mx ex]] w (Ret w (Val (.bool B))) := by
  have Hx := Lib.hid hx
  have Hxs := Lib.hid hxs
  have Hys := Lib.hid hys
  have Hvb := Lib.hid hvb
  clear hx hxs hys hvb
  go_enter Try.func11, Try.ntmps11
  have HB := Lib.hid (Below.refl w.heap.size w)
  go_wp2_with fail
  obtain ⟨W1, hW⟩ : ∃ W1, W1 = (World.alloc w (.cells #[.bool bx, .slice sx nx cx, .slice tx mx ex] 25)) := ⟨_, rfl⟩
  rw [← hW]
  obtain ⟨xa0, hk, hb⟩ := boxes_1 _ _ _ hW
  clear hW
  have Hx := Lib.hid (AR.keep Hx.out hk)
  have Hxs := Lib.hid (Sl.keep Hxs.out hk)
  have Hys := Lib.hid (Sl.keep Hys.out hk)
  have Ga0 := Lib.hid (show w.heap.size ≤ w.heap.size from Nat.le_trans HB.out.size (by omega))
  have Xa0 := Lib.hid xa0
  have HB := Lib.hid (below_call HB.out hb)
  clear hk hb xa0
  (first | (have hcall := zvalid_p Hvb.out Hxs.out Hys.out Hx.out (by decide); refine Calls.mono hcall ?_; clear hcall) | refine Calls.mono (zvalid_p Hvb.out Hxs.out Hys.out Hx.out (by decide)) ?_)
  rintro e w2 ⟨v2, rfl, rfl, hb⟩
  have Xa0 := Lib.hid (Box.pcall hb Xa0.out)
  have HB := Lib.hid (below_call HB.out hb)
  clear hb
  obtain ⟨ca00, ca01, ca02, fa00, fa01, fa02⟩ := Xa0.out.c3
  have la0 := Xa0.out.lt
  go_wp2
  clear ca00 ca01 ca02 fa00 fa01 fa02 la0
  go_ret
  exact ⟨_, rfl, rfl, HB.out⟩


theorem small_any {B : Bool} {v : Value} {w : World} (h : SV B w v) : Calls Try.prog 11 #[v] w (Ret w (Val (.bool B))) := by
  obtain ⟨b, s, n, c, t, m, e, rfl, h⟩ := h
  rcases h with ⟨h, rfl⟩ | ⟨⟨h1, h2⟩, xs, ys, q, h3, h4, h5, h6⟩
  · by_cases h1 : 5 < n
    · exact small_n1 (decide_eq_false (by omega))
    · exact small_n2 (decide_eq_true (by omega)) (decide_eq_false (by omega))
  · exact small_y (decide_eq_true (by omega)) (decide_eq_true (by omega)) h6 h3 h4 h5
theorem sv_of {b : Bool} {s t : Option Addr} {n c m e : Nat} {w : World} (r : Row w (.slice s n c) n) (u : Row w (.slice t m e) m) : ∃ B, SV B w (.agg #[.bool b, .slice s n c, .slice t m e]) ∧ (B = true → ∃ q, AR q 5 w (.agg #[.bool b, .slice s n c, .slice t m e])) := by
  by_cases h : n ≤ 5 ∧ m ≤ 5
  · obtain ⟨xs, h1, h2⟩ := r (by omega)
    obtain ⟨ys, h3, h4⟩ := u (by omega)
    have hA : AR (rv b (val xs) (val ys)) 5 w (.agg #[.bool b, .slice s n c, .slice t m e]) := AR.mk ⟨xs, h1, rfl, by omega⟩ ⟨ys, h3, rfl, by omega⟩
    exact ⟨_, ⟨b, s, n, c, t, m, e, rfl, .inr ⟨h, xs, ys, _, h1, h3, hA, rfl⟩⟩, fun _ => ⟨_, hA⟩⟩
  · exact ⟨false, ⟨b, s, n, c, t, m, e, rfl, .inl ⟨by omega, rfl⟩⟩, fun h => by cases h⟩

set_option maxRecDepth 100000 in
set_option maxHeartbeats 4000000 in
theorem lscale {x y s : Int}  {w : World} {a e : Int} (ha1 : -9223372036854775808 ≤ x) (ha2 : x < 9223372036854775808) (hb1 : -9223372036854775808 ≤ y) (hb2 : y < 9223372036854775808) (hf : SC x y s = (a, e)) (hg : SC y x s = (a, e)) :
    Calls Try.prog 5 #[.int .i64 x, .int .i64 y, .int .i64 s] w (Ret w (Val (.bool true))) := by
  have Ha1 := Lib.hid ha1
  have Ha2 := Lib.hid ha2
  have Hb1 := Lib.hid hb1
  have Hb2 := Lib.hid hb2
  have Hf := Lib.hid hf
  have Hg := Lib.hid hg
  clear ha1 ha2 hb1 hb2 hf hg
  go_enter Try.func5, Try.ntmps5
  have HB := Lib.hid (Below.refl w.heap.size w)
  go_wp2_with fail
  refine Calls.mono (awake51) ?_
  rintro e w1 ⟨v1, rfl, rfl, hb⟩
  have HB := Lib.hid (below_call HB.out hb)
  clear hb
  go_wp2_with fail
  refine Calls.mono (fscale_any Ha1.out Ha2.out Hb1.out Hb2.out Hf.out) ?_
  rintro e w2 ⟨v2, rfl, rfl, hb⟩
  have HB := Lib.hid (below_call HB.out hb)
  clear hb
  go_wp2_with fail
  refine Calls.mono (zscale_any Ha1.out Ha2.out Hb1.out Hb2.out Hf.out) ?_
  rintro e w3 ⟨v3, rfl, rfl, hb⟩
  have HB := Lib.hid (below_call HB.out hb)
  clear hb
  go_wp2_with fail
  refine Calls.mono (fscale_any Hb1.out Hb2.out Ha1.out Ha2.out Hg.out) ?_
  rintro e w4 ⟨v4, rfl, rfl, hb⟩
  have HB := Lib.hid (below_call HB.out hb)
  clear hb
  go_wp2
  go_ret
  exact ⟨_, rfl, rfl, HB.out⟩


set_option maxRecDepth 100000 in
set_option maxHeartbeats 4000000 in
theorem lsat {x y : Int}  {w : World}  :
    Calls Try.prog 6 #[.int .i64 x, .int .i64 y] w (Ret w (Val (.bool true))) := by
  go_enter Try.func6, Try.ntmps6
  have HB := Lib.hid (Below.refl w.heap.size w)
  go_wp2_with fail
  refine Calls.mono (awake51) ?_
  rintro e w1 ⟨v1, rfl, rfl, hb⟩
  have HB := Lib.hid (below_call HB.out hb)
  clear hb
  go_wp2_with fail
  refine Calls.mono (fsat_any x y _) ?_
  rintro e w2 ⟨v2, rfl, rfl, hb⟩
  have HB := Lib.hid (below_call HB.out hb)
  clear hb
  go_wp2_with fail
  refine Calls.mono (zsat_any x y _) ?_
  rintro e w3 ⟨v3, rfl, rfl, hb⟩
  have HB := Lib.hid (below_call HB.out hb)
  clear hb
  go_wp2_with fail
  refine Calls.mono (val_of (fsat_any (satZ x y) y _) (by rw [satZ_idem])) ?_
  rintro e w4 ⟨v4, rfl, rfl, hb⟩
  have HB := Lib.hid (below_call HB.out hb)
  clear hb
  go_wp2
  go_ret
  exact ⟨_, rfl, rfl, HB.out⟩


set_option maxRecDepth 100000 in
set_option maxHeartbeats 4000000 in
theorem lrm_n {s : Int} {bx : Bool} {sx tx : Option Addr} {nx cx mx ex : Nat}  {w : World} (hvx : SV false w (.agg #[.bool bx, .slice sx nx cx, .slice tx mx ex]))  :
    Calls Try.prog 3 #[.agg #[.bool bx, .slice sx nx cx, .slice tx mx ex], .int .i64 s] w (Ret w (Val (.bool true))) := by
  have Hvx := Lib.hid hvx
  clear hvx
  go_enter Try.func3, Try.ntmps3
  have HB := Lib.hid (Below.refl w.heap.size w)
  go_wp2_with fail
  obtain ⟨W1, hW⟩ : ∃ W1, W1 = (World.alloc w (.cells #[.bool bx, .slice sx nx cx, .slice tx mx ex] 25)) := ⟨_, rfl⟩
  rw [← hW]
  obtain ⟨xa0, hk, hb⟩ := boxes_1 _ _ _ hW
  clear hW
  have Hvx := Lib.hid (SV.keep Hvx.out hk)
  have Ga0 := Lib.hid (show w.heap.size ≤ w.heap.size from Nat.le_trans HB.out.size (by omega))
  have Xa0 := Lib.hid xa0
  have HB := Lib.hid (below_call HB.out hb)
  clear hk hb xa0
  refine Calls.mono (awake51) ?_
  rintro e w2 ⟨v2, rfl, rfl, hb⟩
  have Hvx := Lib.hid (SV.keep Hvx.out (Keep.call hb))
  have Xa0 := Lib.hid (Box.pcall hb Xa0.out)
  have HB := Lib.hid (below_call HB.out hb)
  clear hb
  obtain ⟨ca00, ca01, ca02, fa00, fa01, fa02⟩ := Xa0.out.c3
  have la0 := Xa0.out.lt
  go_wp2_with fail
  clear ca00 ca01 ca02 fa00 fa01 fa02 la0
  (first | (have hcall := small_any Hvx.out; refine Calls.mono hcall ?_; clear hcall) | refine Calls.mono (small_any Hvx.out) ?_)
  rintro e w3 ⟨v3, rfl, rfl, hb⟩
  have Xa0 := Lib.hid (Box.pcall hb Xa0.out)
  have HB := Lib.hid (below_call HB.out hb)
  clear hb
  obtain ⟨ca00, ca01, ca02, fa00, fa01, fa02⟩ := Xa0.out.c3
  have la0 := Xa0.out.lt
  go_wp2
  clear ca00 ca01 ca02 fa00 fa01 fa02 la0
  go_ret
  exact ⟨_, rfl, rfl, HB.out⟩


set_option maxRecDepth 100000 in
set_option maxHeartbeats 4000000 in
theorem lrm_y {s : Int} {qx : Rat} {bx : Bool} {sx tx : Option Addr} {nx cx mx ex : Nat}  {w : World} {a e : Int} (hf : FR qx s = (a, e)) (hvx : SV true w (.agg #[.bool bx, .slice sx nx cx, .slice tx mx ex])) (hx : AR qx 5 w (.agg #[.bool bx, .slice sx nx cx, .slice tx mx ex]))  :
    Calls Try.prog 3 #[.agg #[.bool bx, .slice sx nx cx, .slice tx mx ex], .int .i64 s] w (Ret w (Val (.bool true))) := by
  have Hx := Lib.hid hx
  have Hvx := Lib.hid hvx
  have Hf := Lib.hid hf
  clear hx hvx hf
  go_enter Try.func3, Try.ntmps3
  have HB := Lib.hid (Below.refl w.heap.size w)
  go_wp2_with fail
  obtain ⟨W1, hW⟩ : ∃ W1, W1 = (World.alloc w (.cells #[.bool bx, .slice sx nx cx, .slice tx mx ex] 25)) := ⟨_, rfl⟩
  rw [← hW]
  obtain ⟨xa0, hk, hb⟩ := boxes_1 _ _ _ hW
  clear hW
  have Hx := Lib.hid (AR.keep Hx.out hk)
  have Hvx := Lib.hid (SV.keep Hvx.out hk)
  have Ga0 := Lib.hid (show w.heap.size ≤ w.heap.size from Nat.le_trans HB.out.size (by omega))
  have Xa0 := Lib.hid xa0
  have HB := Lib.hid (below_call HB.out hb)
  clear hk hb xa0
  refine Calls.mono (awake51) ?_
  rintro e w2 ⟨v2, rfl, rfl, hb⟩
  have Hx := Lib.hid (AR.keep Hx.out (Keep.call hb))
  have Hvx := Lib.hid (SV.keep Hvx.out (Keep.call hb))
  have Xa0 := Lib.hid (Box.pcall hb Xa0.out)
  have HB := Lib.hid (below_call HB.out hb)
  clear hb
  obtain ⟨ca00, ca01, ca02, fa00, fa01, fa02⟩ := Xa0.out.c3
  have la0 := Xa0.out.lt
  go_wp2_with fail
  clear ca00 ca01 ca02 fa00 fa01 fa02 la0
  (first | (have hcall := small_any Hvx.out; refine Calls.mono hcall ?_; clear hcall) | refine Calls.mono (small_any Hvx.out) ?_)
  rintro e w3 ⟨v3, rfl, rfl, hb⟩
  have Hx := Lib.hid (AR.keep Hx.out (Keep.call hb))
  have Xa0 := Lib.hid (Box.pcall hb Xa0.out)
  have HB := Lib.hid (below_call HB.out hb)
  clear hb
  obtain ⟨ca00, ca01, ca02, fa00, fa01, fa02⟩ := Xa0.out.c3
  have la0 := Xa0.out.lt
  go_wp2_with fail
  clear ca00 ca01 ca02 fa00 fa01 fa02 la0
  (first | (have hcall := fround_ar Hf.out Hx.out (by decide); refine Calls.mono hcall ?_; clear hcall) | refine Calls.mono (fround_ar Hf.out Hx.out (by decide)) ?_)
  rintro e w4 ⟨v4, rfl, rfl, hb⟩
  have Hx := Lib.hid (AR.keep Hx.out (Keep.call hb))
  have Xa0 := Lib.hid (Box.pcall hb Xa0.out)
  have HB := Lib.hid (below_call HB.out hb)
  clear hb
  obtain ⟨ca00, ca01, ca02, fa00, fa01, fa02⟩ := Xa0.out.c3
  have la0 := Xa0.out.lt
  go_wp2_with fail
  clear ca00 ca01 ca02 fa00 fa01 fa02 la0
  (first | (have hcall := zfround_ar Hf.out Hx.out (by decide); refine Calls.mono hcall ?_; clear hcall) | refine Calls.mono (zfround_ar Hf.out Hx.out (by decide)) ?_)
  rintro e w5 ⟨v5, rfl, rfl, hb⟩
  have Xa0 := Lib.hid (Box.pcall hb Xa0.out)
  have HB := Lib.hid (below_call HB.out hb)
  clear hb
  obtain ⟨ca00, ca01, ca02, fa00, fa01, fa02⟩ := Xa0.out.c3
  have la0 := Xa0.out.lt
  go_wp2
  clear ca00 ca01 ca02 fa00 fa01 fa02 la0
  go_ret
  exact ⟨_, rfl, rfl, HB.out⟩


set_option maxRecDepth 100000 in
set_option maxHeartbeats 4000000 in
theorem lord_n1 {s : Int} {bx : Bool} {sx tx : Option Addr} {nx cx mx ex : Nat} {bu : Bool} {su tu : Option Addr} {nu cu mu eu : Nat}  {w : World} (hvx : SV false w (.agg #[.bool bx, .slice sx nx cx, .slice tx mx ex]))  :
    Calls Try.prog 4 #[.agg #[.bool bx, .slice sx nx cx, .slice tx mx ex], .agg #[.bool bu, .slice su nu cu, .slice tu mu eu], .int .i64 s] w (Ret w (Val (.bool true))) := by
  have Hvx := Lib.hid hvx
  clear hvx
  go_enter Try.func4, Try.ntmps4
  have HB := Lib.hid (Below.refl w.heap.size w)
  go_wp2_with fail
  obtain ⟨W1, hW⟩ : ∃ W1, W1 = (World.alloc (World.alloc w (.cells #[.bool bx, .slice sx nx cx, .slice tx mx ex] 25)) (.cells #[.bool bu, .slice su nu cu, .slice tu mu eu] 25)) := ⟨_, rfl⟩
  rw [← hW]
  obtain ⟨xa0, xb0, hk, hb⟩ := boxes_2 _ _ _ _ _ hW
  clear hW
  have Hvx := Lib.hid (SV.keep Hvx.out hk)
  have Ga0 := Lib.hid (show w.heap.size ≤ w.heap.size from Nat.le_trans HB.out.size (by omega))
  have Gb0 := Lib.hid (show w.heap.size ≤ w.heap.size + 1 from Nat.le_trans HB.out.size (by omega))
  have Xa0 := Lib.hid xa0
  have Xb0 := Lib.hid xb0
  have HB := Lib.hid (below_call HB.out hb)
  clear hk hb xa0 xb0
  refine Calls.mono (awake51) ?_
  rintro e w2 ⟨v2, rfl, rfl, hb⟩
  have Hvx := Lib.hid (SV.keep Hvx.out (Keep.call hb))
  have Xa0 := Lib.hid (Box.pcall hb Xa0.out)
  have Xb0 := Lib.hid (Box.pcall hb Xb0.out)
  have HB := Lib.hid (below_call HB.out hb)
  clear hb
  obtain ⟨ca00, ca01, ca02, fa00, fa01, fa02⟩ := Xa0.out.c3
  have la0 := Xa0.out.lt
  obtain ⟨cb00, cb01, cb02, fb00, fb01, fb02⟩ := Xb0.out.c3
  have lb0 := Xb0.out.lt
  go_wp2_with fail
  clear ca00 ca01 ca02 fa00 fa01 fa02 la0 cb00 cb01 cb02 fb00 fb01 fb02 lb0
  (first | (have hcall := small_any Hvx.out; refine Calls.mono hcall ?_; clear hcall) | refine Calls.mono (small_any Hvx.out) ?_)
  rintro e w3 ⟨v3, rfl, rfl, hb⟩
  have Xa0 := Lib.hid (Box.pcall hb Xa0.out)
  have Xb0 := Lib.hid (Box.pcall hb Xb0.out)
  have HB := Lib.hid (below_call HB.out hb)
  clear hb
  obtain ⟨ca00, ca01, ca02, fa00, fa01, fa02⟩ := Xa0.out.c3
  have la0 := Xa0.out.lt
  obtain ⟨cb00, cb01, cb02, fb00, fb01, fb02⟩ := Xb0.out.c3
  have lb0 := Xb0.out.lt
  go_wp2
  clear ca00 ca01 ca02 fa00 fa01 fa02 la0 cb00 cb01 cb02 fb00 fb01 fb02 lb0
  go_ret
  exact ⟨_, rfl, rfl, HB.out⟩


set_option maxRecDepth 100000 in
set_option maxHeartbeats 4000000 in
theorem lord_n2 {s : Int} {bx : Bool} {sx tx : Option Addr} {nx cx mx ex : Nat} {bu : Bool} {su tu : Option Addr} {nu cu mu eu : Nat}  {w : World} (hvx : SV true w (.agg #[.bool bx, .slice sx nx cx, .slice tx mx ex])) (hvu : SV false w (.agg #[.bool bu, .slice su nu cu, .slice tu mu eu]))  :
    Calls Try.prog 4 #[.agg #[.bool bx, .slice sx nx cx, .slice tx mx ex], .agg #[.bool bu, .slice su nu cu, .slice tu mu eu], .int .i64 s] w (Ret w (Val (.bool true))) := by
  have Hvx := Lib.hid hvx
  have Hvu := Lib.hid hvu
  clear hvx hvu
  go_enter Try.func4, Try.ntmps4
  have HB := Lib.hid (Below.refl w.heap.size w)
  go_wp2_with fail
  obtain ⟨W1, hW⟩ : ∃ W1, W1 = (World.alloc (World.alloc w (.cells #[.bool bx, .slice sx nx cx, .slice tx mx ex] 25)) (.cells #[.bool bu, .slice su nu cu, .slice tu mu eu] 25)) := ⟨_, rfl⟩
  rw [← hW]
  obtain ⟨xa0, xb0, hk, hb⟩ := boxes_2 _ _ _ _ _ hW
  clear hW
  have Hvx := Lib.hid (SV.keep Hvx.out hk)
  have Hvu := Lib.hid (SV.keep Hvu.out hk)
  have Ga0 := Lib.hid (show w.heap.size ≤ w.heap.size from Nat.le_trans HB.out.size (by omega))
  have Gb0 := Lib.hid (show w.heap.size ≤ w.heap.size + 1 from Nat.le_trans HB.out.size (by omega))
  have Xa0 := Lib.hid xa0
  have Xb0 := Lib.hid xb0
  have HB := Lib.hid (below_call HB.out hb)
  clear hk hb xa0 xb0
  refine Calls.mono (awake51) ?_
  rintro e w2 ⟨v2, rfl, rfl, hb⟩
  have Hvx := Lib.hid (SV.keep Hvx.out (Keep.call hb))
  have Hvu := Lib.hid (SV.keep Hvu.out (Keep.call hb))
  have Xa0 := Lib.hid (Box.pcall hb Xa0.out)
  have Xb0 := Lib.hid (Box.pcall hb Xb0.out)
  have HB := Lib.hid (below_call HB.out hb)
  clear hb
  obtain ⟨ca00, ca01, ca02, fa00, fa01, fa02⟩ := Xa0.out.c3
  have la0 := Xa0.out.lt
  obtain ⟨cb00, cb01, cb02, fb00, fb01, fb02⟩ := Xb0.out.c3
  have lb0 := Xb0.out.lt
  go_wp2_with fail
  clear ca00 ca01 ca02 fa00 fa01 fa02 la0 cb00 cb01 cb02 fb00 fb01 fb02 lb0
  (first | (have hcall := small_any Hvx.out; refine Calls.mono hcall ?_; clear hcall) | refine Calls.mono (small_any Hvx.out) ?_)
  rintro e w3 ⟨v3, rfl, rfl, hb⟩
  have Hvu := Lib.hid (SV.keep Hvu.out (Keep.call hb))
  have Xa0 := Lib.hid (Box.pcall hb Xa0.out)
  have Xb0 := Lib.hid (Box.pcall hb Xb0.out)
  have HB := Lib.hid (below_call HB.out hb)
  clear hb
  obtain ⟨ca00, ca01, ca02, fa00, fa01, fa02⟩ := Xa0.out.c3
  have la0 := Xa0.out.lt
  obtain ⟨cb00, cb01, cb02, fb00, fb01, fb02⟩ := Xb0.out.c3
  have lb0 := Xb0.out.lt
  go_wp2_with fail
  clear ca00 ca01 ca02 fa00 fa01 fa02 la0 cb00 cb01 cb02 fb00 fb01 fb02 lb0
  (first | (have hcall := small_any Hvu.out; refine Calls.mono hcall ?_; clear hcall) | refine Calls.mono (small_any Hvu.out) ?_)
  rintro e w4 ⟨v4, rfl, rfl, hb⟩
  have Xa0 := Lib.hid (Box.pcall hb Xa0.out)
  have Xb0 := Lib.hid (Box.pcall hb Xb0.out)
  have HB := Lib.hid (below_call HB.out hb)
  clear hb
  obtain ⟨ca00, ca01, ca02, fa00, fa01, fa02⟩ := Xa0.out.c3
  have la0 := Xa0.out.lt
  obtain ⟨cb00, cb01, cb02, fb00, fb01, fb02⟩ := Xb0.out.c3
  have lb0 := Xb0.out.lt
  go_wp2
  clear ca00 ca01 ca02 fa00 fa01 fa02 la0 cb00 cb01 cb02 fb00 fb01 fb02 lb0
  go_ret
  exact ⟨_, rfl, rfl, HB.out⟩


set_option maxRecDepth 100000 in
set_option maxHeartbeats 4000000 in
theorem lord_e {s : Int} {qx : Rat} {bx : Bool} {sx tx : Option Addr} {nx cx mx ex : Nat} {qu : Rat} {bu : Bool} {su tu : Option Addr} {nu cu mu eu : Nat} {e : Int} {f : Int}  {w : World} {a c : Int} (he : (e != 0) = true) (hf : FR qx s = (a, e)) (hg : FR qu s = (c, f)) (hk : FR (-qx) s = (-a, e)) (hvx : SV true w (.agg #[.bool bx, .slice sx nx cx, .slice tx mx ex])) (hvu : SV true w (.agg #[.bool bu, .slice su nu cu, .slice tu mu eu])) (hx : AR qx 5 w (.agg #[.bool bx, .slice sx nx cx, .slice tx mx ex])) (hu : AR qu 5 w (.agg #[.bool bu, .slice su nu cu, .slice tu mu eu]))  :
    Calls Try.prog 4 #[.agg #[.bool bx, .slice sx nx cx, .slice tx mx ex], .agg #[.bool bu, .slice su nu cu, .slice tu mu eu], .int .i64 s] w (Ret w (Val (.bool true))) := by
  have Hx := Lib.hid hx
  have Hu := Lib.hid hu
  have Hvx := Lib.hid hvx
  have Hvu := Lib.hid hvu
  have Hf := Lib.hid hf
  have Hg := Lib.hid hg
  have Hk := Lib.hid hk
  clear hx hu hvx hvu hf hg hk
  go_enter Try.func4, Try.ntmps4
  have HB := Lib.hid (Below.refl w.heap.size w)
  go_wp2_with fail
  obtain ⟨W1, hW⟩ : ∃ W1, W1 = (World.alloc (World.alloc w (.cells #[.bool bx, .slice sx nx cx, .slice tx mx ex] 25)) (.cells #[.bool bu, .slice su nu cu, .slice tu mu eu] 25)) := ⟨_, rfl⟩
  rw [← hW]
  obtain ⟨xa0, xb0, hk, hb⟩ := boxes_2 _ _ _ _ _ hW
  clear hW
  have Hx := Lib.hid (AR.keep Hx.out hk)
  have Hu := Lib.hid (AR.keep Hu.out hk)
  have Hvx := Lib.hid (SV.keep Hvx.out hk)
  have Hvu := Lib.hid (SV.keep Hvu.out hk)
  have Ga0 := Lib.hid (show w.heap.size ≤ w.heap.size from Nat.le_trans HB.out.size (by omega))
  have Gb0 := Lib.hid (show w.heap.size ≤ w.heap.size + 1 from Nat.le_trans HB.out.size (by omega))
  have Xa0 := Lib.hid xa0
  have Xb0 := Lib.hid xb0
  have HB := Lib.hid (below_call HB.out hb)
  clear hk hb xa0 xb0
  refine Calls.mono (awake51) ?_
  rintro e w2 ⟨v2, rfl, rfl, hb⟩
  have Hx := Lib.hid (AR.keep Hx.out (Keep.call hb))
  have Hu := Lib.hid (AR.keep Hu.out (Keep.call hb))
  have Hvx := Lib.hid (SV.keep Hvx.out (Keep.call hb))
  have Hvu := Lib.hid (SV.keep Hvu.out (Keep.call hb))
  have Xa0 := Lib.hid (Box.pcall hb Xa0.out)
  have Xb0 := Lib.hid (Box.pcall hb Xb0.out)
  have HB := Lib.hid (below_call HB.out hb)
  clear hb
  obtain ⟨ca00, ca01, ca02, fa00, fa01, fa02⟩ := Xa0.out.c3
  have la0 := Xa0.out.lt
  obtain ⟨cb00, cb01, cb02, fb00, fb01, fb02⟩ := Xb0.out.c3
  have lb0 := Xb0.out.lt
  go_wp2_with fail
  clear ca00 ca01 ca02 fa00 fa01 fa02 la0 cb00 cb01 cb02 fb00 fb01 fb02 lb0
  (first | (have hcall := small_any Hvx.out; refine Calls.mono hcall ?_; clear hcall) | refine Calls.mono (small_any Hvx.out) ?_)
  rintro e w3 ⟨v3, rfl, rfl, hb⟩
  have Hx := Lib.hid (AR.keep Hx.out (Keep.call hb))
  have Hu := Lib.hid (AR.keep Hu.out (Keep.call hb))
  have Hvu := Lib.hid (SV.keep Hvu.out (Keep.call hb))
  have Xa0 := Lib.hid (Box.pcall hb Xa0.out)
  have Xb0 := Lib.hid (Box.pcall hb Xb0.out)
  have HB := Lib.hid (below_call HB.out hb)
  clear hb
  obtain ⟨ca00, ca01, ca02, fa00, fa01, fa02⟩ := Xa0.out.c3
  have la0 := Xa0.out.lt
  obtain ⟨cb00, cb01, cb02, fb00, fb01, fb02⟩ := Xb0.out.c3
  have lb0 := Xb0.out.lt
  go_wp2_with fail
  clear ca00 ca01 ca02 fa00 fa01 fa02 la0 cb00 cb01 cb02 fb00 fb01 fb02 lb0
  (first | (have hcall := small_any Hvu.out; refine Calls.mono hcall ?_; clear hcall) | refine Calls.mono (small_any Hvu.out) ?_)
  rintro e w4 ⟨v4, rfl, rfl, hb⟩
  have Hx := Lib.hid (AR.keep Hx.out (Keep.call hb))
  have Hu := Lib.hid (AR.keep Hu.out (Keep.call hb))
  have Xa0 := Lib.hid (Box.pcall hb Xa0.out)
  have Xb0 := Lib.hid (Box.pcall hb Xb0.out)
  have HB := Lib.hid (below_call HB.out hb)
  clear hb
  obtain ⟨ca00, ca01, ca02, fa00, fa01, fa02⟩ := Xa0.out.c3
  have la0 := Xa0.out.lt
  obtain ⟨cb00, cb01, cb02, fb00, fb01, fb02⟩ := Xb0.out.c3
  have lb0 := Xb0.out.lt
  go_wp2_with fail
  clear ca00 ca01 ca02 fa00 fa01 fa02 la0 cb00 cb01 cb02 fb00 fb01 fb02 lb0
  (first | (have hcall := fround_ar Hf.out Hx.out (by decide); refine Calls.mono hcall ?_; clear hcall) | refine Calls.mono (fround_ar Hf.out Hx.out (by decide)) ?_)
  rintro e w5 ⟨v5, rfl, rfl, hb⟩
  have Hx := Lib.hid (AR.keep Hx.out (Keep.call hb))
  have Hu := Lib.hid (AR.keep Hu.out (Keep.call hb))
  have Xa0 := Lib.hid (Box.pcall hb Xa0.out)
  have Xb0 := Lib.hid (Box.pcall hb Xb0.out)
  have HB := Lib.hid (below_call HB.out hb)
  clear hb
  obtain ⟨ca00, ca01, ca02, fa00, fa01, fa02⟩ := Xa0.out.c3
  have la0 := Xa0.out.lt
  obtain ⟨cb00, cb01, cb02, fb00, fb01, fb02⟩ := Xb0.out.c3
  have lb0 := Xb0.out.lt
  go_wp2_with fail
  clear ca00 ca01 ca02 fa00 fa01 fa02 la0 cb00 cb01 cb02 fb00 fb01 fb02 lb0
  (first | (have hcall := fround_ar Hg.out Hu.out (by decide); refine Calls.mono hcall ?_; clear hcall) | refine Calls.mono (fround_ar Hg.out Hu.out (by decide)) ?_)
  rintro e w6 ⟨v6, rfl, rfl, hb⟩
  have Hx := Lib.hid (AR.keep Hx.out (Keep.call hb))
  have Xa0 := Lib.hid (Box.pcall hb Xa0.out)
  have Xb0 := Lib.hid (Box.pcall hb Xb0.out)
  have HB := Lib.hid (below_call HB.out hb)
  clear hb
  obtain ⟨ca00, ca01, ca02, fa00, fa01, fa02⟩ := Xa0.out.c3
  have la0 := Xa0.out.lt
  obtain ⟨cb00, cb01, cb02, fb00, fb01, fb02⟩ := Xb0.out.c3
  have lb0 := Xb0.out.lt
  go_wp2_with fail
  clear ca00 ca01 ca02 fa00 fa01 fa02 la0 cb00 cb01 cb02 fb00 fb01 fb02 lb0
  (first | (have hcall := zneg_ar Hx.out (by decide); refine Calls.mono hcall ?_; clear hcall) | refine Calls.mono (zneg_ar Hx.out (by decide)) ?_)
  rintro e w7 ⟨v7, rfl, hn1, hb⟩
  obtain ⟨n1_b, n1_a, n1_n, n1_c, n1_d, n1_m, n1_e, rfl⟩ := hn1.litb
  have Xa0 := Lib.hid (Box.pcall hb Xa0.out)
  have Xb0 := Lib.hid (Box.pcall hb Xb0.out)
  have HB := Lib.hid (below_call HB.out hb)
  have Hn1 := Lib.hid hn1
  clear hb hn1
  obtain ⟨ca00, ca01, ca02, fa00, fa01, fa02⟩ := Xa0.out.c3
  have la0 := Xa0.out.lt
  obtain ⟨cb00, cb01, cb02, fb00, fb01, fb02⟩ := Xb0.out.c3
  have lb0 := Xb0.out.lt
  go_wp2_with fail
  clear ca00 ca01 ca02 fa00 fa01 fa02 la0 cb00 cb01 cb02 fb00 fb01 fb02 lb0
  (first | (have hcall := fround_ar Hk.out Hn1.out.ar (by decide); refine Calls.mono hcall ?_; clear hcall) | refine Calls.mono (fround_ar Hk.out Hn1.out.ar (by decide)) ?_)
  rintro e w8 ⟨v8, rfl, rfl, hb⟩
  have Xa0 := Lib.hid (Box.pcall hb Xa0.out)
  have Xb0 := Lib.hid (Box.pcall hb Xb0.out)
  have HB := Lib.hid (below_call HB.out hb)
  clear hb
  obtain ⟨ca00, ca01, ca02, fa00, fa01, fa02⟩ := Xa0.out.c3
  have la0 := Xa0.out.lt
  obtain ⟨cb00, cb01, cb02, fb00, fb01, fb02⟩ := Xb0.out.c3
  have lb0 := Xb0.out.lt
  go_wp2
  clear ca00 ca01 ca02 fa00 fa01 fa02 la0 cb00 cb01 cb02 fb00 fb01 fb02 lb0
  go_ret
  exact ⟨_, rfl, rfl, HB.out⟩


set_option maxRecDepth 100000 in
set_option maxHeartbeats 4000000 in
theorem lord_f {s : Int} {qx : Rat} {bx : Bool} {sx tx : Option Addr} {nx cx mx ex : Nat} {qu : Rat} {bu : Bool} {su tu : Option Addr} {nu cu mu eu : Nat} {f : Int}  {w : World} {a c : Int} (he : (f != 0) = true) (hf : FR qx s = (a, 0)) (hg : FR qu s = (c, f)) (hk : FR (-qx) s = (-a, 0)) (hvx : SV true w (.agg #[.bool bx, .slice sx nx cx, .slice tx mx ex])) (hvu : SV true w (.agg #[.bool bu, .slice su nu cu, .slice tu mu eu])) (hx : AR qx 5 w (.agg #[.bool bx, .slice sx nx cx, .slice tx mx ex])) (hu : AR qu 5 w (.agg #[.bool bu, .slice su nu cu, .slice tu mu eu]))  :
    Calls Try.prog 4 #[.agg #[.bool bx, .slice sx nx cx, .slice tx mx ex], .agg #[.bool bu, .slice su nu cu, .slice tu mu eu], .int .i64 s] w (Ret w (Val (.bool true))) := by
  have Hx := Lib.hid hx
  have Hu := Lib.hid hu
  have Hvx := Lib.hid hvx
  have Hvu := Lib.hid hvu
  have Hf := Lib.hid hf
  have Hg := Lib.hid hg
  have Hk := Lib.hid hk
  clear hx hu hvx hvu hf hg hk
  go_enter Try.func4, Try.ntmps4
  have HB := Lib.hid (Below.refl w.heap.size w)
  go_wp2_with fail
  obtain ⟨W1, hW⟩ : ∃ W1, W1 = (World.alloc (World.alloc w (.cells #[.bool bx, .slice sx nx cx, .slice tx mx ex] 25)) (.cells #[.bool bu, .slice su nu cu, .slice tu mu eu] 25)) := ⟨_, rfl⟩
  rw [← hW]
  obtain ⟨xa0, xb0, hk, hb⟩ := boxes_2 _ _ _ _ _ hW
  clear hW
  have Hx := Lib.hid (AR.keep Hx.out hk)
  have Hu := Lib.hid (AR.keep Hu.out hk)
  have Hvx := Lib.hid (SV.keep Hvx.out hk)
  have Hvu := Lib.hid (SV.keep Hvu.out hk)
  have Ga0 := Lib.hid (show w.heap.size ≤ w.heap.size from Nat.le_trans HB.out.size (by omega))
  have Gb0 := Lib.hid (show w.heap.size ≤ w.heap.size + 1 from Nat.le_trans HB.out.size (by omega))
  have Xa0 := Lib.hid xa0
  have Xb0 := Lib.hid xb0
  have HB := Lib.hid (below_call HB.out hb)
  clear hk hb xa0 xb0
  refine Calls.mono (awake51) ?_
  rintro e w2 ⟨v2, rfl, rfl, hb⟩
  have Hx := Lib.hid (AR.keep Hx.out (Keep.call hb))
  have Hu := Lib.hid (AR.keep Hu.out (Keep.call hb))
  have Hvx := Lib.hid (SV.keep Hvx.out (Keep.call hb))
  have Hvu := Lib.hid (SV.keep Hvu.out (Keep.call hb))
  have Xa0 := Lib.hid (Box.pcall hb Xa0.out)
  have Xb0 := Lib.hid (Box.pcall hb Xb0.out)
  have HB := Lib.hid (below_call HB.out hb)
  clear hb
  obtain ⟨ca00, ca01, ca02, fa00, fa01, fa02⟩ := Xa0.out.c3
  have la0 := Xa0.out.lt
  obtain ⟨cb00, cb01, cb02, fb00, fb01, fb02⟩ := Xb0.out.c3
  have lb0 := Xb0.out.lt
  go_wp2_with fail
  clear ca00 ca01 ca02 fa00 fa01 fa02 la0 cb00 cb01 cb02 fb00 fb01 fb02 lb0
  (first | (have hcall := small_any Hvx.out; refine Calls.mono hcall ?_; clear hcall) | refine Calls.mono (small_any Hvx.out) ?_)
  rintro e w3 ⟨v3, rfl, rfl, hb⟩
  have Hx := Lib.hid (AR.keep Hx.out (Keep.call hb))
  have Hu := Lib.hid (AR.keep Hu.out (Keep.call hb))
  have Hvu := Lib.hid (SV.keep Hvu.out (Keep.call hb))
  have Xa0 := Lib.hid (Box.pcall hb Xa0.out)
  have Xb0 := Lib.hid (Box.pcall hb Xb0.out)
  have HB := Lib.hid (below_call HB.out hb)
  clear hb
  obtain ⟨ca00, ca01, ca02, fa00, fa01, fa02⟩ := Xa0.out.c3
  have la0 := Xa0.out.lt
  obtain ⟨cb00, cb01, cb02, fb00, fb01, fb02⟩ := Xb0.out.c3
  have lb0 := Xb0.out.lt
  go_wp2_with fail
  clear ca00 ca01 ca02 fa00 fa01 fa02 la0 cb00 cb01 cb02 fb00 fb01 fb02 lb0
  (first | (have hcall := small_any Hvu.out; refine Calls.mono hcall ?_; clear hcall) | refine Calls.mono (small_any Hvu.out) ?_)
  rintro e w4 ⟨v4, rfl, rfl, hb⟩
  have Hx := Lib.hid (AR.keep Hx.out (Keep.call hb))
  have Hu := Lib.hid (AR.keep Hu.out (Keep.call hb))
  have Xa0 := Lib.hid (Box.pcall hb Xa0.out)
  have Xb0 := Lib.hid (Box.pcall hb Xb0.out)
  have HB := Lib.hid (below_call HB.out hb)
  clear hb
  obtain ⟨ca00, ca01, ca02, fa00, fa01, fa02⟩ := Xa0.out.c3
  have la0 := Xa0.out.lt
  obtain ⟨cb00, cb01, cb02, fb00, fb01, fb02⟩ := Xb0.out.c3
  have lb0 := Xb0.out.lt
  go_wp2_with fail
  clear ca00 ca01 ca02 fa00 fa01 fa02 la0 cb00 cb01 cb02 fb00 fb01 fb02 lb0
  (first | (have hcall := fround_ar Hf.out Hx.out (by decide); refine Calls.mono hcall ?_; clear hcall) | refine Calls.mono (fround_ar Hf.out Hx.out (by decide)) ?_)
  rintro e w5 ⟨v5, rfl, rfl, hb⟩
  have Hx := Lib.hid (AR.keep Hx.out (Keep.call hb))
  have Hu := Lib.hid (AR.keep Hu.out (Keep.call hb))
  have Xa0 := Lib.hid (Box.pcall hb Xa0.out)
  have Xb0 := Lib.hid (Box.pcall hb Xb0.out)
  have HB := Lib.hid (below_call HB.out hb)
  clear hb
  obtain ⟨ca00, ca01, ca02, fa00, fa01, fa02⟩ := Xa0.out.c3
  have la0 := Xa0.out.lt
  obtain ⟨cb00, cb01, cb02, fb00, fb01, fb02⟩ := Xb0.out.c3
  have lb0 := Xb0.out.lt
  go_wp2_with fail
  clear ca00 ca01 ca02 fa00 fa01 fa02 la0 cb00 cb01 cb02 fb00 fb01 fb02 lb0
  (first | (have hcall := fround_ar Hg.out Hu.out (by decide); refine Calls.mono hcall ?_; clear hcall) | refine Calls.mono (fround_ar Hg.out Hu.out (by decide)) ?_)
  rintro e w6 ⟨v6, rfl, rfl, hb⟩
  have Hx := Lib.hid (AR.keep Hx.out (Keep.call hb))
  have Xa0 := Lib.hid (Box.pcall hb Xa0.out)
  have Xb0 := Lib.hid (Box.pcall hb Xb0.out)
  have HB := Lib.hid (below_call HB.out hb)
  clear hb
  obtain ⟨ca00, ca01, ca02, fa00, fa01, fa02⟩ := Xa0.out.c3
  have la0 := Xa0.out.lt
  obtain ⟨cb00, cb01, cb02, fb00, fb01, fb02⟩ := Xb0.out.c3
  have lb0 := Xb0.out.lt
  go_wp2_with fail
  clear ca00 ca01 ca02 fa00 fa01 fa02 la0 cb00 cb01 cb02 fb00 fb01 fb02 lb0
  (first | (have hcall := zneg_ar Hx.out (by decide); refine Calls.mono hcall ?_; clear hcall) | refine Calls.mono (zneg_ar Hx.out (by decide)) ?_)
  rintro e w7 ⟨v7, rfl, hn1, hb⟩
  obtain ⟨n1_b, n1_a, n1_n, n1_c, n1_d, n1_m, n1_e, rfl⟩ := hn1.litb
  have Xa0 := Lib.hid (Box.pcall hb Xa0.out)
  have Xb0 := Lib.hid (Box.pcall hb Xb0.out)
  have HB := Lib.hid (below_call HB.out hb)
  have Hn1 := Lib.hid hn1
  clear hb hn1
  obtain ⟨ca00, ca01, ca02, fa00, fa01, fa02⟩ := Xa0.out.c3
  have la0 := Xa0.out.lt
  obtain ⟨cb00, cb01, cb02, fb00, fb01, fb02⟩ := Xb0.out.c3
  have lb0 := Xb0.out.lt
  go_wp2_with fail
  clear ca00 ca01 ca02 fa00 fa01 fa02 la0 cb00 cb01 cb02 fb00 fb01 fb02 lb0
  (first | (have hcall := fround_ar Hk.out Hn1.out.ar (by decide); refine Calls.mono hcall ?_; clear hcall) | refine Calls.mono (fround_ar Hk.out Hn1.out.ar (by decide)) ?_)
  rintro e w8 ⟨v8, rfl, rfl, hb⟩
  have Xa0 := Lib.hid (Box.pcall hb Xa0.out)
  have Xb0 := Lib.hid (Box.pcall hb Xb0.out)
  have HB := Lib.hid (below_call HB.out hb)
  clear hb
  obtain ⟨ca00, ca01, ca02, fa00, fa01, fa02⟩ := Xa0.out.c3
  have la0 := Xa0.out.lt
  obtain ⟨cb00, cb01, cb02, fb00, fb01, fb02⟩ := Xb0.out.c3
  have lb0 := Xb0.out.lt
  go_wp2
  clear ca00 ca01 ca02 fa00 fa01 fa02 la0 cb00 cb01 cb02 fb00 fb01 fb02 lb0
  go_ret
  exact ⟨_, rfl, rfl, HB.out⟩


set_option maxRecDepth 100000 in
set_option maxHeartbeats 4000000 in
theorem lord_g {s : Int} {qx : Rat} {bx : Bool} {sx tx : Option Addr} {nx cx mx ex : Nat} {qu : Rat} {bu : Bool} {su tu : Option Addr} {nu cu mu eu : Nat}  {w : World} {a c : Int} (hw : IntKind.i64.wrap (-a) = -a) (hw2 : wrap64 (-a) = -a) (m : Int) (hm : cmpQ qx qu = m) (hm0 : decide (0 < m) = true) (hf : FR qx s = (a, 0)) (hg : FR qu s = (c, 0)) (hk : FR (-qx) s = (-a, 0)) (hvx : SV true w (.agg #[.bool bx, .slice sx nx cx, .slice tx mx ex])) (hvu : SV true w (.agg #[.bool bu, .slice su nu cu, .slice tu mu eu])) (hx : AR qx 5 w (.agg #[.bool bx, .slice sx nx cx, .slice tx mx ex])) (hu : AR qu 5 w (.agg #[.bool bu, .slice su nu cu, .slice tu mu eu]))  :
    Calls Try.prog 4 #[.agg #[.bool bx, .slice sx nx cx, .slice tx mx ex], .agg #[.bool bu, .slice su nu cu, .slice tu mu eu], .int .i64 s] w (Ret w (Val (.bool true))) := by
  have Hx := Lib.hid hx
  have Hu := Lib.hid hu
  have Hvx := Lib.hid hvx
  have Hvu := Lib.hid hvu
  have Hf := Lib.hid hf
  have Hg := Lib.hid hg
  have Hk := Lib.hid hk
  have Hm := Lib.hid hm
  have Hm0 := Lib.hid hm0
  clear hx hu hvx hvu hf hg hk hm hm0
  go_enter Try.func4, Try.ntmps4
  have HB := Lib.hid (Below.refl w.heap.size w)
  go_wp2_with fail
  obtain ⟨W1, hW⟩ : ∃ W1, W1 = (World.alloc (World.alloc w (.cells #[.bool bx, .slice sx nx cx, .slice tx mx ex] 25)) (.cells #[.bool bu, .slice su nu cu, .slice tu mu eu] 25)) := ⟨_, rfl⟩
  rw [← hW]
  obtain ⟨xa0, xb0, hk, hb⟩ := boxes_2 _ _ _ _ _ hW
  clear hW
  have Hx := Lib.hid (AR.keep Hx.out hk)
  have Hu := Lib.hid (AR.keep Hu.out hk)
  have Hvx := Lib.hid (SV.keep Hvx.out hk)
  have Hvu := Lib.hid (SV.keep Hvu.out hk)
  have Ga0 := Lib.hid (show w.heap.size ≤ w.heap.size from Nat.le_trans HB.out.size (by omega))
  have Gb0 := Lib.hid (show w.heap.size ≤ w.heap.size + 1 from Nat.le_trans HB.out.size (by omega))
  have Xa0 := Lib.hid xa0
  have Xb0 := Lib.hid xb0
  have HB := Lib.hid (below_call HB.out hb)
  clear hk hb xa0 xb0
  refine Calls.mono (awake51) ?_
  rintro e w2 ⟨v2, rfl, rfl, hb⟩
  have Hx := Lib.hid (AR.keep Hx.out (Keep.call hb))
  have Hu := Lib.hid (AR.keep Hu.out (Keep.call hb))
  have Hvx := Lib.hid (SV.keep Hvx.out (Keep.call hb))
  have Hvu := Lib.hid (SV.keep Hvu.out (Keep.call hb))
  have Xa0 := Lib.hid (Box.pcall hb Xa0.out)
  have Xb0 := Lib.hid (Box.pcall hb Xb0.out)
  have HB := Lib.hid (below_call HB.out hb)
  clear hb
  obtain ⟨ca00, ca01, ca02, fa00, fa01, fa02⟩ := Xa0.out.c3
  have la0 := Xa0.out.lt
  obtain ⟨cb00, cb01, cb02, fb00, fb01, fb02⟩ := Xb0.out.c3
  have lb0 := Xb0.out.lt
  go_wp2_with fail
  clear ca00 ca01 ca02 fa00 fa01 fa02 la0 cb00 cb01 cb02 fb00 fb01 fb02 lb0
  (first | (have hcall := small_any Hvx.out; refine Calls.mono hcall ?_; clear hcall) | refine Calls.mono (small_any Hvx.out) ?_)
  rintro e w3 ⟨v3, rfl, rfl, hb⟩
  have Hx := Lib.hid (AR.keep Hx.out (Keep.call hb))
  have Hu := Lib.hid (AR.keep Hu.out (Keep.call hb))
  have Hvu := Lib.hid (SV.keep Hvu.out (Keep.call hb))
  have Xa0 := Lib.hid (Box.pcall hb Xa0.out)
  have Xb0 := Lib.hid (Box.pcall hb Xb0.out)
  have HB := Lib.hid (below_call HB.out hb)
  clear hb
  obtain ⟨ca00, ca01, ca02, fa00, fa01, fa02⟩ := Xa0.out.c3
  have la0 := Xa0.out.lt
  obtain ⟨cb00, cb01, cb02, fb00, fb01, fb02⟩ := Xb0.out.c3
  have lb0 := Xb0.out.lt
  go_wp2_with fail
  clear ca00 ca01 ca02 fa00 fa01 fa02 la0 cb00 cb01 cb02 fb00 fb01 fb02 lb0
  (first | (have hcall := small_any Hvu.out; refine Calls.mono hcall ?_; clear hcall) | refine Calls.mono (small_any Hvu.out) ?_)
  rintro e w4 ⟨v4, rfl, rfl, hb⟩
  have Hx := Lib.hid (AR.keep Hx.out (Keep.call hb))
  have Hu := Lib.hid (AR.keep Hu.out (Keep.call hb))
  have Xa0 := Lib.hid (Box.pcall hb Xa0.out)
  have Xb0 := Lib.hid (Box.pcall hb Xb0.out)
  have HB := Lib.hid (below_call HB.out hb)
  clear hb
  obtain ⟨ca00, ca01, ca02, fa00, fa01, fa02⟩ := Xa0.out.c3
  have la0 := Xa0.out.lt
  obtain ⟨cb00, cb01, cb02, fb00, fb01, fb02⟩ := Xb0.out.c3
  have lb0 := Xb0.out.lt
  go_wp2_with fail
  clear ca00 ca01 ca02 fa00 fa01 fa02 la0 cb00 cb01 cb02 fb00 fb01 fb02 lb0
  (first | (have hcall := fround_ar Hf.out Hx.out (by decide); refine Calls.mono hcall ?_; clear hcall) | refine Calls.mono (fround_ar Hf.out Hx.out (by decide)) ?_)
  rintro e w5 ⟨v5, rfl, rfl, hb⟩
  have Hx := Lib.hid (AR.keep Hx.out (Keep.call hb))
  have Hu := Lib.hid (AR.keep Hu.out (Keep.call hb))
  have Xa0 := Lib.hid (Box.pcall hb Xa0.out)
  have Xb0 := Lib.hid (Box.pcall hb Xb0.out)
  have HB := Lib.hid (below_call HB.out hb)
  clear hb
  obtain ⟨ca00, ca01, ca02, fa00, fa01, fa02⟩ := Xa0.out.c3
  have la0 := Xa0.out.lt
  obtain ⟨cb00, cb01, cb02, fb00, fb01, fb02⟩ := Xb0.out.c3
  have lb0 := Xb0.out.lt
  go_wp2_with fail
  clear ca00 ca01 ca02 fa00 fa01 fa02 la0 cb00 cb01 cb02 fb00 fb01 fb02 lb0
  (first | (have hcall := fround_ar Hg.out Hu.out (by decide); refine Calls.mono hcall ?_; clear hcall) | refine Calls.mono (fround_ar Hg.out Hu.out (by decide)) ?_)
  rintro e w6 ⟨v6, rfl, rfl, hb⟩
  have Hx := Lib.hid (AR.keep Hx.out (Keep.call hb))
  have Hu := Lib.hid (AR.keep Hu.out (Keep.call hb))
  have Xa0 := Lib.hid (Box.pcall hb Xa0.out)
  have Xb0 := Lib.hid (Box.pcall hb Xb0.out)
  have HB := Lib.hid (below_call HB.out hb)
  clear hb
  obtain ⟨ca00, ca01, ca02, fa00, fa01, fa02⟩ := Xa0.out.c3
  have la0 := Xa0.out.lt
  obtain ⟨cb00, cb01, cb02, fb00, fb01, fb02⟩ := Xb0.out.c3
  have lb0 := Xb0.out.lt
  go_wp2_with fail
  clear ca00 ca01 ca02 fa00 fa01 fa02 la0 cb00 cb01 cb02 fb00 fb01 fb02 lb0
  (first | (have hcall := zneg_ar Hx.out (by decide); refine Calls.mono hcall ?_; clear hcall) | refine Calls.mono (zneg_ar Hx.out (by decide)) ?_)
  rintro e w7 ⟨v7, rfl, hn1, hb⟩
  obtain ⟨n1_b, n1_a, n1_n, n1_c, n1_d, n1_m, n1_e, rfl⟩ := hn1.litb
  have Hx := Lib.hid (AR.keep Hx.out (Keep.call hb))
  have Hu := Lib.hid (AR.keep Hu.out (Keep.call hb))
  have Xa0 := Lib.hid (Box.pcall hb Xa0.out)
  have Xb0 := Lib.hid (Box.pcall hb Xb0.out)
  have HB := Lib.hid (below_call HB.out hb)
  have Hn1 := Lib.hid hn1
  clear hb hn1
  obtain ⟨ca00, ca01, ca02, fa00, fa01, fa02⟩ := Xa0.out.c3
  have la0 := Xa0.out.lt
  obtain ⟨cb00, cb01, cb02, fb00, fb01, fb02⟩ := Xb0.out.c3
  have lb0 := Xb0.out.lt
  go_wp2_with fail
  clear ca00 ca01 ca02 fa00 fa01 fa02 la0 cb00 cb01 cb02 fb00 fb01 fb02 lb0
  (first | (have hcall := fround_ar Hk.out Hn1.out.ar (by decide); refine Calls.mono hcall ?_; clear hcall) | refine Calls.mono (fround_ar Hk.out Hn1.out.ar (by decide)) ?_)
  rintro e w8 ⟨v8, rfl, rfl, hb⟩
  have Hx := Lib.hid (AR.keep Hx.out (Keep.call hb))
  have Hu := Lib.hid (AR.keep Hu.out (Keep.call hb))
  have Xa0 := Lib.hid (Box.pcall hb Xa0.out)
  have Xb0 := Lib.hid (Box.pcall hb Xb0.out)
  have HB := Lib.hid (below_call HB.out hb)
  clear hb
  obtain ⟨ca00, ca01, ca02, fa00, fa01, fa02⟩ := Xa0.out.c3
  have la0 := Xa0.out.lt
  obtain ⟨cb00, cb01, cb02, fb00, fb01, fb02⟩ := Xb0.out.c3
  have lb0 := Xb0.out.lt
  go_wp2_with fail
  clear ca00 ca01 ca02 fa00 fa01 fa02 la0 cb00 cb01 cb02 fb00 fb01 fb02 lb0
  (first | (have hcall := zcmp_ar m Hx.out Hu.out Hm.out (by decide) (by decide); refine Calls.mono hcall ?_; clear hcall) | refine Calls.mono (zcmp_ar m Hx.out Hu.out Hm.out (by decide) (by decide)) ?_)
  rintro e w9 ⟨v9, rfl, ⟨⟩, hb⟩
  have Xa0 := Lib.hid (Box.pcall hb Xa0.out)
  have Xb0 := Lib.hid (Box.pcall hb Xb0.out)
  have HB := Lib.hid (below_call HB.out hb)
  clear hb
  have hm0 : decide (0 < m) = true := Hm0.out
  obtain ⟨ca00, ca01, ca02, fa00, fa01, fa02⟩ := Xa0.out.c3
  have la0 := Xa0.out.lt
  obtain ⟨cb00, cb01, cb02, fb00, fb01, fb02⟩ := Xb0.out.c3
  have lb0 := Xb0.out.lt
  go_wp2
  clear ca00 ca01 ca02 fa00 fa01 fa02 la0 cb00 cb01 cb02 fb00 fb01 fb02 lb0
  go_ret
  exact ⟨_, rfl, rfl, HB.out⟩


set_option maxRecDepth 100000 in
set_option maxHeartbeats 4000000 in
theorem lord_l {s : Int} {qx : Rat} {bx : Bool} {sx tx : Option Addr} {nx cx mx ex : Nat} {qu : Rat} {bu : Bool} {su tu : Option Addr} {nu cu mu eu : Nat}  {w : World} {a c : Int} (hw : IntKind.i64.wrap (-a) = -a) (hw2 : wrap64 (-a) = -a) (m : Int) (hm : cmpQ qx qu = m) (hm0 : decide (0 < m) = false) (hac : decide (a ≤ c) = true) (hf : FR qx s = (a, 0)) (hg : FR qu s = (c, 0)) (hk : FR (-qx) s = (-a, 0)) (hvx : SV true w (.agg #[.bool bx, .slice sx nx cx, .slice tx mx ex])) (hvu : SV true w (.agg #[.bool bu, .slice su nu cu, .slice tu mu eu])) (hx : AR qx 5 w (.agg #[.bool bx, .slice sx nx cx, .slice tx mx ex])) (hu : AR qu 5 w (.agg #[.bool bu, .slice su nu cu, .slice tu mu eu]))  :
    Calls Try.prog 4 #[.agg #[.bool bx, .slice sx nx cx, .slice tx mx ex], .agg #[.bool bu, .slice su nu cu, .slice tu mu eu], .int .i64 s] w (Ret w (Val (.bool true))) := by
  have Hx := Lib.hid hx
  have Hu := Lib.hid hu
  have Hvx := Lib.hid hvx
  have Hvu := Lib.hid hvu
  have Hf := Lib.hid hf
  have Hg := Lib.hid hg
  have Hk := Lib.hid hk
  have Hm := Lib.hid hm
  have Hm0 := Lib.hid hm0
  clear hx hu hvx hvu hf hg hk hm hm0
  go_enter Try.func4, Try.ntmps4
  have HB := Lib.hid (Below.refl w.heap.size w)
  go_wp2_with fail
  obtain ⟨W1, hW⟩ : ∃ W1, W1 = (World.alloc (World.alloc w (.cells #[.bool bx, .slice sx nx cx, .slice tx mx ex] 25)) (.cells #[.bool bu, .slice su nu cu, .slice tu mu eu] 25)) := ⟨_, rfl⟩
  rw [← hW]
  obtain ⟨xa0, xb0, hk, hb⟩ := boxes_2 _ _ _ _ _ hW
  clear hW
  have Hx := Lib.hid (AR.keep Hx.out hk)
  have Hu := Lib.hid (AR.keep Hu.out hk)
  have Hvx := Lib.hid (SV.keep Hvx.out hk)
  have Hvu := Lib.hid (SV.keep Hvu.out hk)
  have Ga0 := Lib.hid (show w.heap.size ≤ w.heap.size from Nat.le_trans HB.out.size (by omega))
  have Gb0 := Lib.hid (show w.heap.size ≤ w.heap.size + 1 from Nat.le_trans HB.out.size (by omega))
  have Xa0 := Lib.hid xa0
  have Xb0 := Lib.hid xb0
  have HB := Lib.hid (below_call HB.out hb)
  clear hk hb xa0 xb0
  refine Calls.mono (awake51) ?_
  rintro e w2 ⟨v2, rfl, rfl, hb⟩
  have Hx := Lib.hid (AR.keep Hx.out (Keep.call hb))
  have Hu := Lib.hid (AR.keep Hu.out (Keep.call hb))
  have Hvx := Lib.hid (SV.keep Hvx.out (Keep.call hb))
  have Hvu := Lib.hid (SV.keep Hvu.out (Keep.call hb))
  have Xa0 := Lib.hid (Box.pcall hb Xa0.out)
  have Xb0 := Lib.hid (Box.pcall hb Xb0.out)
  have HB := Lib.hid (below_call HB.out hb)
  clear hb
  obtain ⟨ca00, ca01, ca02, fa00, fa01, fa02⟩ := Xa0.out.c3
  have la0 := Xa0.out.lt
  obtain ⟨cb00, cb01, cb02, fb00, fb01, fb02⟩ := Xb0.out.c3
  have lb0 := Xb0.out.lt
  go_wp2_with fail
  clear ca00 ca01 ca02 fa00 fa01 fa02 la0 cb00 cb01 cb02 fb00 fb01 fb02 lb0
  (first | (have hcall := small_any Hvx.out; refine Calls.mono hcall ?_; clear hcall) | refine Calls.mono (small_any Hvx.out) ?_)
  rintro e w3 ⟨v3, rfl, rfl, hb⟩
  have Hx := Lib.hid (AR.keep Hx.out (Keep.call hb))
  have Hu := Lib.hid (AR.keep Hu.out (Keep.call hb))
  have Hvu := Lib.hid (SV.keep Hvu.out (Keep.call hb))
  have Xa0 := Lib.hid (Box.pcall hb Xa0.out)
  have Xb0 := Lib.hid (Box.pcall hb Xb0.out)
  have HB := Lib.hid (below_call HB.out hb)
  clear hb
  obtain ⟨ca00, ca01, ca02, fa00, fa01, fa02⟩ := Xa0.out.c3
  have la0 := Xa0.out.lt
  obtain ⟨cb00, cb01, cb02, fb00, fb01, fb02⟩ := Xb0.out.c3
  have lb0 := Xb0.out.lt
  go_wp2_with fail
  clear ca00 ca01 ca02 fa00 fa01 fa02 la0 cb00 cb01 cb02 fb00 fb01 fb02 lb0
  (first | (have hcall := small_any Hvu.out; refine Calls.mono hcall ?_; clear hcall) | refine Calls.mono (small_any Hvu.out) ?_)
  rintro e w4 ⟨v4, rfl, rfl, hb⟩
  have Hx := Lib.hid (AR.keep Hx.out (Keep.call hb))
  have Hu := Lib.hid (AR.keep Hu.out (Keep.call hb))
  have Xa0 := Lib.hid (Box.pcall hb Xa0.out)
  have Xb0 := Lib.hid (Box.pcall hb Xb0.out)
  have HB := Lib.hid (below_call HB.out hb)
  clear hb
  obtain ⟨ca00, ca01, ca02, fa00, fa01, fa02⟩ := Xa0.out.c3
  have la0 := Xa0.out.lt
  obtain ⟨cb00, cb01, cb02, fb00, fb01, fb02⟩ := Xb0.out.c3
  have lb0 := Xb0.out.lt
  go_wp2_with fail
  clear ca00 ca01 ca02 fa00 fa01 fa02 la0 cb00 cb01 cb02 fb00 fb01 fb02 lb0
  (first | (have hcall := fround_ar Hf.out Hx.out (by decide); refine Calls.mono hcall ?_; clear hcall) | refine Calls.mono (fround_ar Hf.out Hx.out (by decide)) ?_)
  rintro e w5 ⟨v5, rfl, rfl, hb⟩
  have Hx := Lib.hid (AR.keep Hx.out (Keep.call hb))
  have Hu := Lib.hid (AR.keep Hu.out (Keep.call hb))
  have Xa0 := Lib.hid (Box.pcall hb Xa0.out)
  have Xb0 := Lib.hid (Box.pcall hb Xb0.out)
  have HB := Lib.hid (below_call HB.out hb)
  clear hb
  obtain ⟨ca00, ca01, ca02, fa00, fa01, fa02⟩ := Xa0.out.c3
  have la0 := Xa0.out.lt
  obtain ⟨cb00, cb01, cb02, fb00, fb01, fb02⟩ := Xb0.out.c3
  have lb0 := Xb0.out.lt
  go_wp2_with fail
  clear ca00 ca01 ca02 fa00 fa01 fa02 la0 cb00 cb01 cb02 fb00 fb01 fb02 lb0
  (first | (have hcall := fround_ar Hg.out Hu.out (by decide); refine Calls.mono hcall ?_; clear hcall) | refine Calls.mono (fround_ar Hg.out Hu.out (by decide)) ?_)
  rintro e w6 ⟨v6, rfl, rfl, hb⟩
  have Hx := Lib.hid (AR.keep Hx.out (Keep.call hb))
  have Hu := Lib.hid (AR.keep Hu.out (Keep.call hb))
  have Xa0 := Lib.hid (Box.pcall hb Xa0.out)
  have Xb0 := Lib.hid (Box.pcall hb Xb0.out)
  have HB := Lib.hid (below_call HB.out hb)
  clear hb
  obtain ⟨ca00, ca01, ca02, fa00, fa01, fa02⟩ := Xa0.out.c3
  have la0 := Xa0.out.lt
  obtain ⟨cb00, cb01, cb02, fb00, fb01, fb02⟩ := Xb0.out.c3
  have lb0 := Xb0.out.lt
  go_wp2_with fail
  clear ca00 ca01 ca02 fa00 fa01 fa02 la0 cb00 cb01 cb02 fb00 fb01 fb02 lb0
  (first | (have hcall := zneg_ar Hx.out (by decide); refine Calls.mono hcall ?_; clear hcall) | refine Calls.mono (zneg_ar Hx.out (by decide)) ?_)
  rintro e w7 ⟨v7, rfl, hn1, hb⟩
  obtain ⟨n1_b, n1_a, n1_n, n1_c, n1_d, n1_m, n1_e, rfl⟩ := hn1.litb
  have Hx := Lib.hid (AR.keep Hx.out (Keep.call hb))
  have Hu := Lib.hid (AR.keep Hu.out (Keep.call hb))
  have Xa0 := Lib.hid (Box.pcall hb Xa0.out)
  have Xb0 := Lib.hid (Box.pcall hb Xb0.out)
  have HB := Lib.hid (below_call HB.out hb)
  have Hn1 := Lib.hid hn1
  clear hb hn1
  obtain ⟨ca00, ca01, ca02, fa00, fa01, fa02⟩ := Xa0.out.c3
  have la0 := Xa0.out.lt
  obtain ⟨cb00, cb01, cb02, fb00, fb01, fb02⟩ := Xb0.out.c3
  have lb0 := Xb0.out.lt
  go_wp2_with fail
  clear ca00 ca01 ca02 fa00 fa01 fa02 la0 cb00 cb01 cb02 fb00 fb01 fb02 lb0
  (first | (have hcall := fround_ar Hk.out Hn1.out.ar (by decide); refine Calls.mono hcall ?_; clear hcall) | refine Calls.mono (fround_ar Hk.out Hn1.out.ar (by decide)) ?_)
  rintro e w8 ⟨v8, rfl, rfl, hb⟩
  have Hx := Lib.hid (AR.keep Hx.out (Keep.call hb))
  have Hu := Lib.hid (AR.keep Hu.out (Keep.call hb))
  have Xa0 := Lib.hid (Box.pcall hb Xa0.out)
  have Xb0 := Lib.hid (Box.pcall hb Xb0.out)
  have HB := Lib.hid (below_call HB.out hb)
  clear hb
  obtain ⟨ca00, ca01, ca02, fa00, fa01, fa02⟩ := Xa0.out.c3
  have la0 := Xa0.out.lt
  obtain ⟨cb00, cb01, cb02, fb00, fb01, fb02⟩ := Xb0.out.c3
  have lb0 := Xb0.out.lt
  go_wp2_with fail
  clear ca00 ca01 ca02 fa00 fa01 fa02 la0 cb00 cb01 cb02 fb00 fb01 fb02 lb0
  (first | (have hcall := zcmp_ar m Hx.out Hu.out Hm.out (by decide) (by decide); refine Calls.mono hcall ?_; clear hcall) | refine Calls.mono (zcmp_ar m Hx.out Hu.out Hm.out (by decide) (by decide)) ?_)
  rintro e w9 ⟨v9, rfl, ⟨⟩, hb⟩
  have Xa0 := Lib.hid (Box.pcall hb Xa0.out)
  have Xb0 := Lib.hid (Box.pcall hb Xb0.out)
  have HB := Lib.hid (below_call HB.out hb)
  clear hb
  have hm0 : decide (0 < m) = false := Hm0.out
  obtain ⟨ca00, ca01, ca02, fa00, fa01, fa02⟩ := Xa0.out.c3
  have la0 := Xa0.out.lt
  obtain ⟨cb00, cb01, cb02, fb00, fb01, fb02⟩ := Xb0.out.c3
  have lb0 := Xb0.out.lt
  go_wp2
  clear ca00 ca01 ca02 fa00 fa01 fa02 la0 cb00 cb01 cb02 fb00 fb01 fb02 lb0
  go_ret
  exact ⟨_, rfl, rfl, HB.out⟩


theorem frat_any {x : Int} {s : Nat} {w : World} (hs : s ≤ 62) (ha1 : -9223372036854775808 ≤ x) (ha2 : x < 9223372036854775808) : Calls Try.prog 22 #[.int .i64 x, .int .i64 ((s : Nat) : Int)] w (Ret w (CRE ((x : Rat) / tw s) 6 0)) :=
  frat_y (decide_eq_true ⟨by omega, by omega⟩) hs (tw_of hs).1 (tw_of hs).2 (sh_one hs) ha1 ha2
theorem ferr_any {s : Nat} {w : World} (hs : s ≤ 62) : Calls Try.prog 23 #[.int .i64 ((s : Nat) : Int)] w (Ret w (CRE (((1 : Int) : Rat) / ((2 : Int) : Rat) * (((1 : Int) : Rat) / tw s)) 12 0)) :=
  ferr_y (decide_eq_true ⟨by omega, by omega⟩) hs (tw_of hs).1 (tw_of hs).2 (sh_one hs)
theorem zrat_any {x : Int} {s : Nat} {w : World} (hs : s ≤ 62) (ha1 : -9223372036854775808 ≤ x) (ha2 : x < 9223372036854775808) : Calls Try.prog 25 #[.int .i64 x, .int .i64 ((s : Nat) : Int)] w (Ret w (CRE ((x : Rat) / tw s) 8 0)) :=
  zrat_y (decide_eq_true ⟨by omega, by omega⟩) hs ha1 ha2
theorem zerr_any {s : Nat} {w : World} (hs : s ≤ 62) : Calls Try.prog 26 #[.int .i64 ((s : Nat) : Int)] w (Ret w (CRE (((1 : Int) : Rat) / tw (s + 1)) 8 0)) :=
  zerr_y (decide_eq_true ⟨by omega, by omega⟩) hs

set_option maxRecDepth 100000 in
set_option maxHeartbeats 4000000 in
theorem lnear_n {s : Int} {bx : Bool} {sx tx : Option Addr} {nx cx mx ex : Nat}  {w : World} (hvx : SV false w (.agg #[.bool bx, .slice sx nx cx, .slice tx mx ex]))  :
    Calls Try.prog 8 #[.agg #[.bool bx, .slice sx nx cx, .slice tx mx ex], .int .i64 s] w (Ret w (Val (.bool true))) := by
  have Hvx := Lib.hid hvx
  clear hvx
  go_enter Try.func8, Try.ntmps8
  have HB := Lib.hid (Below.refl w.heap.size w)
  go_wp2_with fail
  obtain ⟨W1, hW⟩ : ∃ W1, W1 = (World.alloc w (.cells #[.bool bx, .slice sx nx cx, .slice tx mx ex] 25)) := ⟨_, rfl⟩
  rw [← hW]
  obtain ⟨xa0, hk, hb⟩ := boxes_1 _ _ _ hW
  clear hW
  have Hvx := Lib.hid (SV.keep Hvx.out hk)
  have Ga0 := Lib.hid (show w.heap.size ≤ w.heap.size from Nat.le_trans HB.out.size (by omega))
  have Xa0 := Lib.hid xa0
  have HB := Lib.hid (below_call HB.out hb)
  clear hk hb xa0
  refine Calls.mono (awake51) ?_
  rintro e w2 ⟨v2, rfl, rfl, hb⟩
  have Hvx := Lib.hid (SV.keep Hvx.out (Keep.call hb))
  have Xa0 := Lib.hid (Box.pcall hb Xa0.out)
  have HB := Lib.hid (below_call HB.out hb)
  clear hb
  obtain ⟨ca00, ca01, ca02, fa00, fa01, fa02⟩ := Xa0.out.c3
  have la0 := Xa0.out.lt
  go_wp2_with fail
  clear ca00 ca01 ca02 fa00 fa01 fa02 la0
  (first | (have hcall := small_any Hvx.out; refine Calls.mono hcall ?_; clear hcall) | refine Calls.mono (small_any Hvx.out) ?_)
  rintro e w3 ⟨v3, rfl, rfl, hb⟩
  have Xa0 := Lib.hid (Box.pcall hb Xa0.out)
  have HB := Lib.hid (below_call HB.out hb)
  clear hb
  obtain ⟨ca00, ca01, ca02, fa00, fa01, fa02⟩ := Xa0.out.c3
  have la0 := Xa0.out.lt
  go_wp2
  clear ca00 ca01 ca02 fa00 fa01 fa02 la0
  go_ret
  exact ⟨_, rfl, rfl, HB.out⟩


set_option maxRecDepth 100000 in
set_option maxHeartbeats 4000000 in
theorem lnear_e {s : Int} {qx : Rat} {bx : Bool} {sx tx : Option Addr} {nx cx mx ex : Nat}  {w : World} {a e : Int} (he : (e != 0) = true) (hf : FR qx s = (a, e)) (hvx : SV true w (.agg #[.bool bx, .slice sx nx cx, .slice tx mx ex])) (hx : AR qx 5 w (.agg #[.bool bx, .slice sx nx cx, .slice tx mx ex]))  :
    Calls Try.prog 8 #[.agg #[.bool bx, .slice sx nx cx, .slice tx mx ex], .int .i64 s] w (Ret w (Val (.bool true))) := by
  have Hx := Lib.hid hx
  have Hvx := Lib.hid hvx
  have Hf := Lib.hid hf
  clear hx hvx hf
  go_enter Try.func8, Try.ntmps8
  have HB := Lib.hid (Below.refl w.heap.size w)
  go_wp2_with fail
  obtain ⟨W1, hW⟩ : ∃ W1, W1 = (World.alloc w (.cells #[.bool bx, .slice sx nx cx, .slice tx mx ex] 25)) := ⟨_, rfl⟩
  rw [← hW]
  obtain ⟨xa0, hk, hb⟩ := boxes_1 _ _ _ hW
  clear hW
  have Hx := Lib.hid (AR.keep Hx.out hk)
  have Hvx := Lib.hid (SV.keep Hvx.out hk)
  have Ga0 := Lib.hid (show w.heap.size ≤ w.heap.size from Nat.le_trans HB.out.size (by omega))
  have Xa0 := Lib.hid xa0
  have HB := Lib.hid (below_call HB.out hb)
  clear hk hb xa0
  refine Calls.mono (awake51) ?_
  rintro e w2 ⟨v2, rfl, rfl, hb⟩
  have Hx := Lib.hid (AR.keep Hx.out (Keep.call hb))
  have Hvx := Lib.hid (SV.keep Hvx.out (Keep.call hb))
  have Xa0 := Lib.hid (Box.pcall hb Xa0.out)
  have HB := Lib.hid (below_call HB.out hb)
  clear hb
  obtain ⟨ca00, ca01, ca02, fa00, fa01, fa02⟩ := Xa0.out.c3
  have la0 := Xa0.out.lt
  go_wp2_with fail
  clear ca00 ca01 ca02 fa00 fa01 fa02 la0
  (first | (have hcall := small_any Hvx.out; refine Calls.mono hcall ?_; clear hcall) | refine Calls.mono (small_any Hvx.out) ?_)
  rintro e w3 ⟨v3, rfl, rfl, hb⟩
  have Hx := Lib.hid (AR.keep Hx.out (Keep.call hb))
  have Xa0 := Lib.hid (Box.pcall hb Xa0.out)
  have HB := Lib.hid (below_call HB.out hb)
  clear hb
  obtain ⟨ca00, ca01, ca02, fa00, fa01, fa02⟩ := Xa0.out.c3
  have la0 := Xa0.out.lt
  go_wp2_with fail
  clear ca00 ca01 ca02 fa00 fa01 fa02 la0
  (first | (have hcall := fround_ar Hf.out Hx.out (by decide); refine Calls.mono hcall ?_; clear hcall) | refine Calls.mono (fround_ar Hf.out Hx.out (by decide)) ?_)
  rintro e w4 ⟨v4, rfl, rfl, hb⟩
  have Xa0 := Lib.hid (Box.pcall hb Xa0.out)
  have HB := Lib.hid (below_call HB.out hb)
  clear hb
  obtain ⟨ca00, ca01, ca02, fa00, fa01, fa02⟩ := Xa0.out.c3
  have la0 := Xa0.out.lt
  go_wp2
  clear ca00 ca01 ca02 fa00 fa01 fa02 la0
  go_ret
  exact ⟨_, rfl, rfl, HB.out⟩


set_option maxRecDepth 100000 in
set_option maxHeartbeats 4000000 in
theorem lnear_y {s : Nat} {qx : Rat} {bx : Bool} {sx tx : Option Addr} {nx cx mx ex : Nat}  {w : World} {a : Int} (hf : FR qx ((s : Nat) : Int) = (a, 0)) (hs : s ≤ 62) (ha1 : -9223372036854775808 ≤ a) (ha2 : a < 9223372036854775808) (m : Int) (hm : cmpQ (rv false (qx - (a : Rat) / tw s).num.natAbs (dn (qx - (a : Rat) / tw s))) (((1 : Int) : Rat) / ((2 : Int) : Rat) * (((1 : Int) : Rat) / tw s)) = m) (hm0 : decide (m ≤ 0) = true) (hvx : SV true w (.agg #[.bool bx, .slice sx nx cx, .slice tx mx ex])) (hx : AR qx 5 w (.agg #[.bool bx, .slice sx nx cx, .slice tx mx ex]))  :
    Calls Try.prog 8 #[.agg #[.bool bx, .slice sx nx cx, .slice tx mx ex], .int .i64 ((s : Nat) : Int)] w (Ret w (Val (.bool true))) := by
  have Hx := Lib.hid hx
  have Hvx := Lib.hid hvx
  have Hf := Lib.hid hf
  have Hs := Lib.hid hs
  have Ha1 := Lib.hid ha1
  have Ha2 := Lib.hid ha2
  have Hm := Lib.hid hm
  have Hm0 := Lib.hid hm0
  clear hx hvx hf hs ha1 ha2 hm hm0
  go_enter Try.func8, Try.ntmps8
  have HB := Lib.hid (Below.refl w.heap.size w)
  go_wp2_with fail
  obtain ⟨W1, hW⟩ : ∃ W1, W1 = (World.alloc w (.cells #[.bool bx, .slice sx nx cx, .slice tx mx ex] 25)) := ⟨_, rfl⟩
  rw [← hW]
  obtain ⟨xa0, hk, hb⟩ := boxes_1 _ _ _ hW
  clear hW
  have Hx := Lib.hid (AR.keep Hx.out hk)
  have Hvx := Lib.hid (SV.keep Hvx.out hk)
  have Ga0 := Lib.hid (show w.heap.size ≤ w.heap.size from Nat.le_trans HB.out.size (by omega))
  have Xa0 := Lib.hid xa0
  have HB := Lib.hid (below_call HB.out hb)
  clear hk hb xa0
  refine Calls.mono (awake51) ?_
  rintro e w2 ⟨v2, rfl, rfl, hb⟩
  have Hx := Lib.hid (AR.keep Hx.out (Keep.call hb))
  have Hvx := Lib.hid (SV.keep Hvx.out (Keep.call hb))
  have Xa0 := Lib.hid (Box.pcall hb Xa0.out)
  have HB := Lib.hid (below_call HB.out hb)
  clear hb
  obtain ⟨ca00, ca01, ca02, fa00, fa01, fa02⟩ := Xa0.out.c3
  have la0 := Xa0.out.lt
  go_wp2_with fail
  clear ca00 ca01 ca02 fa00 fa01 fa02 la0
  (first | (have hcall := small_any Hvx.out; refine Calls.mono hcall ?_; clear hcall) | refine Calls.mono (small_any Hvx.out) ?_)
  rintro e w3 ⟨v3, rfl, rfl, hb⟩
  have Hx := Lib.hid (AR.keep Hx.out (Keep.call hb))
  have Xa0 := Lib.hid (Box.pcall hb Xa0.out)
  have HB := Lib.hid (below_call HB.out hb)
  clear hb
  obtain ⟨ca00, ca01, ca02, fa00, fa01, fa02⟩ := Xa0.out.c3
  have la0 := Xa0.out.lt
  go_wp2_with fail
  clear ca00 ca01 ca02 fa00 fa01 fa02 la0
  (first | (have hcall := fround_ar Hf.out Hx.out (by decide); refine Calls.mono hcall ?_; clear hcall) | refine Calls.mono (fround_ar Hf.out Hx.out (by decide)) ?_)
  rintro e w4 ⟨v4, rfl, rfl, hb⟩
  have Hx := Lib.hid (AR.keep Hx.out (Keep.call hb))
  have Xa0 := Lib.hid (Box.pcall hb Xa0.out)
  have HB := Lib.hid (below_call HB.out hb)
  clear hb
  obtain ⟨ca00, ca01, ca02, fa00, fa01, fa02⟩ := Xa0.out.c3
  have la0 := Xa0.out.lt
  go_wp2_with fail
  clear ca00 ca01 ca02 fa00 fa01 fa02 la0
  refine Calls.mono (frat_any Hs.out Ha1.out Ha2.out) ?_
  rintro e w5 ⟨t5, rfl, ⟨v5, rfl, hy1⟩, hb⟩
  obtain ⟨y1_b, y1_a, y1_n, y1_c, y1_d, y1_m, y1_e, rfl⟩ := hy1.litb
  have Hx := Lib.hid (AR.keep Hx.out (Keep.call hb))
  have Xa0 := Lib.hid (Box.pcall hb Xa0.out)
  have HB := Lib.hid (below_call HB.out hb)
  have Hy1 := Lib.hid hy1
  clear hb hy1
  obtain ⟨ca00, ca01, ca02, fa00, fa01, fa02⟩ := Xa0.out.c3
  have la0 := Xa0.out.lt
  go_wp2_with fail
  clear ca00 ca01 ca02 fa00 fa01 fa02 la0
  obtain ⟨W6, hW⟩ : ∃ W6, W6 = (World.alloc w5 (.cells #[.bool y1_b, .slice y1_a y1_n y1_c, .slice y1_d y1_m y1_e] 25)) := ⟨_, rfl⟩
  rw [← hW]
  obtain ⟨xb0, hk, hb⟩ := boxes_1 _ _ _ hW
  clear hW
  have Hx := Lib.hid (AR.keep Hx.out hk)
  have Hy1 := Lib.hid (CR.keep Hy1.out hk)
  have Na0b0 := Lib.hid (show w.heap.size ≠ w5.heap.size from Nat.ne_of_lt (Nat.lt_of_lt_of_le Xa0.out.lt (by omega)))
  have Gb0 := Lib.hid (show w.heap.size ≤ w5.heap.size from Nat.le_trans HB.out.size (by omega))
  have Xa0 := Lib.hid (Box.pcall hb Xa0.out)
  have Xb0 := Lib.hid xb0
  have HB := Lib.hid (below_call HB.out hb)
  clear hk hb xb0
  refine Calls.mono (ferr_any Hs.out) ?_
  rintro e w7 ⟨t7, rfl, ⟨v7, rfl, hm1⟩, hb⟩
  obtain ⟨m1_b, m1_a, m1_n, m1_c, m1_d, m1_m, m1_e, rfl⟩ := hm1.litb
  have Hx := Lib.hid (AR.keep Hx.out (Keep.call hb))
  have Hy1 := Lib.hid (CR.keep Hy1.out (Keep.call hb))
  have Xa0 := Lib.hid (Box.pcall hb Xa0.out)
  have Xb0 := Lib.hid (Box.pcall hb Xb0.out)
  have HB := Lib.hid (below_call HB.out hb)
  have Hm1 := Lib.hid hm1
  clear hb hm1
  obtain ⟨ca00, ca01, ca02, fa00, fa01, fa02⟩ := Xa0.out.c3
  have la0 := Xa0.out.lt
  obtain ⟨cb00, cb01, cb02, fb00, fb01, fb02⟩ := Xb0.out.c3
  have lb0 := Xb0.out.lt
  go_wp2_with fail
  clear ca00 ca01 ca02 fa00 fa01 fa02 la0 cb00 cb01 cb02 fb00 fb01 fb02 lb0
  obtain ⟨W8, hW⟩ : ∃ W8, W8 = (World.alloc w7 (.cells #[.bool m1_b, .slice m1_a m1_n m1_c, .slice m1_d m1_m m1_e] 25)) := ⟨_, rfl⟩
  rw [← hW]
  obtain ⟨xc0, hk, hb⟩ := boxes_1 _ _ _ hW
  clear hW
  have Hx := Lib.hid (AR.keep Hx.out hk)
  have Hy1 := Lib.hid (CR.keep Hy1.out hk)
  have Hm1 := Lib.hid (CR.keep Hm1.out hk)
  have Na0c0 := Lib.hid (show w.heap.size ≠ w7.heap.size from Nat.ne_of_lt (Nat.lt_of_lt_of_le Xa0.out.lt (by omega)))
  have Nb0c0 := Lib.hid (show w5.heap.size ≠ w7.heap.size from Nat.ne_of_lt (Nat.lt_of_lt_of_le Xb0.out.lt (by omega)))
  have Gc0 := Lib.hid (show w.heap.size ≤ w7.heap.size from Nat.le_trans HB.out.size (by omega))
  have Xa0 := Lib.hid (Box.pcall hb Xa0.out)
  have Xb0 := Lib.hid (Box.pcall hb Xb0.out)
  have Xc0 := Lib.hid xc0
  have HB := Lib.hid (below_call HB.out hb)
  clear hk hb xc0
  (first | (have hcall := zsub_ar Hx.out Hy1.out.ar (by decide) (by decide); refine Calls.mono hcall ?_; clear hcall) | refine Calls.mono (zsub_ar Hx.out Hy1.out.ar (by decide) (by decide)) ?_)
  rintro e w9 ⟨v9, rfl, hd1, hb⟩
  obtain ⟨d1_b, d1_a, d1_n, d1_c, d1_d, d1_m, d1_e, rfl⟩ := hd1.litb
  have Hm1 := Lib.hid (CR.keep Hm1.out (Keep.call hb))
  have Xa0 := Lib.hid (Box.pcall hb Xa0.out)
  have Xb0 := Lib.hid (Box.pcall hb Xb0.out)
  have Xc0 := Lib.hid (Box.pcall hb Xc0.out)
  have HB := Lib.hid (below_call HB.out hb)
  have Hd1 := Lib.hid hd1
  clear hb hd1
  obtain ⟨ca00, ca01, ca02, fa00, fa01, fa02⟩ := Xa0.out.c3
  have la0 := Xa0.out.lt
  obtain ⟨cb00, cb01, cb02, fb00, fb01, fb02⟩ := Xb0.out.c3
  have lb0 := Xb0.out.lt
  obtain ⟨cc00, cc01, cc02, fc00, fc01, fc02⟩ := Xc0.out.c3
  have lc0 := Xc0.out.lt
  go_wp2_with fail
  clear ca00 ca01 ca02 fa00 fa01 fa02 la0 cb00 cb01 cb02 fb00 fb01 fb02 lb0 cc00 cc01 cc02 fc00 fc01 fc02 lc0
  obtain ⟨W10, hW⟩ : ∃ W10, W10 = (World.alloc w9 (.cells #[.bool false, .slice d1_a d1_n d1_c, .slice d1_d d1_m d1_e] 25)) := ⟨_, rfl⟩
  rw [← hW]
  obtain ⟨xd0, hk, hb⟩ := boxes_1 _ _ _ hW
  clear hW
  have Hm1 := Lib.hid (CR.keep Hm1.out hk)
  have Hd1 := Lib.hid (CR.keep Hd1.out hk)
  have Na0d0 := Lib.hid (show w.heap.size ≠ w9.heap.size from Nat.ne_of_lt (Nat.lt_of_lt_of_le Xa0.out.lt (by omega)))
  have Nb0d0 := Lib.hid (show w5.heap.size ≠ w9.heap.size from Nat.ne_of_lt (Nat.lt_of_lt_of_le Xb0.out.lt (by omega)))
  have Nc0d0 := Lib.hid (show w7.heap.size ≠ w9.heap.size from Nat.ne_of_lt (Nat.lt_of_lt_of_le Xc0.out.lt (by omega)))
  have Gd0 := Lib.hid (show w.heap.size ≤ w9.heap.size from Nat.le_trans HB.out.size (by omega))
  have Xa0 := Lib.hid (Box.pcall hb Xa0.out)
  have Xb0 := Lib.hid (Box.pcall hb Xb0.out)
  have Xc0 := Lib.hid (Box.pcall hb Xc0.out)
  have Xd0 := Lib.hid xd0
  have HB := Lib.hid (below_call HB.out hb)
  clear hk hb xd0
  (first | (have hcall := zcmp_ar m (AR.mk (neg := false) Hd1.out.numC.is Hd1.out.denC.is) Hm1.out.ar Hm.out (by decide) (by decide); refine Calls.mono hcall ?_; clear hcall) | refine Calls.mono (zcmp_ar m (AR.mk (neg := false) Hd1.out.numC.is Hd1.out.denC.is) Hm1.out.ar Hm.out (by decide) (by decide)) ?_)
  rintro e w11 ⟨v11, rfl, ⟨⟩, hb⟩
  have Xa0 := Lib.hid (Box.pcall hb Xa0.out)
  have Xb0 := Lib.hid (Box.pcall hb Xb0.out)
  have Xc0 := Lib.hid (Box.pcall hb Xc0.out)
  have Xd0 := Lib.hid (Box.pcall hb Xd0.out)
  have HB := Lib.hid (below_call HB.out hb)
  clear hb
  have hm0 : decide (m ≤ 0) = true := Hm0.out
  obtain ⟨ca00, ca01, ca02, fa00, fa01, fa02⟩ := Xa0.out.c3
  have la0 := Xa0.out.lt
  obtain ⟨cb00, cb01, cb02, fb00, fb01, fb02⟩ := Xb0.out.c3
  have lb0 := Xb0.out.lt
  obtain ⟨cc00, cc01, cc02, fc00, fc01, fc02⟩ := Xc0.out.c3
  have lc0 := Xc0.out.lt
  obtain ⟨cd00, cd01, cd02, fd00, fd01, fd02⟩ := Xd0.out.c3
  have ld0 := Xd0.out.lt
  go_wp2
  clear ca00 ca01 ca02 fa00 fa01 fa02 la0 cb00 cb01 cb02 fb00 fb01 fb02 lb0 cc00 cc01 cc02 fc00 fc01 fc02 lc0 cd00 cd01 cd02 fd00 fd01 fd02 ld0
  go_ret
  exact ⟨_, rfl, rfl, HB.out⟩


set_option maxRecDepth 100000 in
set_option maxHeartbeats 4000000 in
theorem lrat_n {x s : Int}  {w : World} (hv : decide (0 ≤ s ∧ s ≤ 62) = false)  :
    Calls Try.prog 9 #[.int .i64 x, .int .i64 s] w (Ret w (Val (.bool true))) := by
  have Hv := Lib.hid hv
  clear hv
  go_enter Try.func9, Try.ntmps9
  have HB := Lib.hid (Below.refl w.heap.size w)
  go_wp2_with fail
  refine Calls.mono (awake51) ?_
  rintro e w1 ⟨v1, rfl, rfl, hb⟩
  have HB := Lib.hid (below_call HB.out hb)
  clear hb
  go_wp2_with fail
  refine Calls.mono (frat_n Hv.out) ?_
  rintro e w2 ⟨v2, rfl, rfl, hb⟩
  have HB := Lib.hid (below_call HB.out hb)
  clear hb
  go_wp2_with fail
  obtain ⟨W3, hW⟩ : ∃ W3, W3 = (World.alloc w2 (.cells #[.bool false, .slice none 0 0, .slice none 0 0] 25)) := ⟨_, rfl⟩
  rw [← hW]
  obtain ⟨xa0, hk, hb⟩ := boxes_1 _ _ _ hW
  clear hW
  have Ga0 := Lib.hid (show w.heap.size ≤ w2.heap.size from Nat.le_trans HB.out.size (by omega))
  have Xa0 := Lib.hid xa0
  have HB := Lib.hid (below_call HB.out hb)
  clear hk hb xa0
  refine Calls.mono (zrat_n Hv.out) ?_
  rintro e w4 ⟨v4, rfl, rfl, hb⟩
  have Xa0 := Lib.hid (Box.pcall hb Xa0.out)
  have HB := Lib.hid (below_call HB.out hb)
  clear hb
  obtain ⟨ca00, ca01, ca02, fa00, fa01, fa02⟩ := Xa0.out.c3
  have la0 := Xa0.out.lt
  go_wp2_with fail
  clear ca00 ca01 ca02 fa00 fa01 fa02 la0
  obtain ⟨W5, hW⟩ : ∃ W5, W5 = (World.alloc w4 (.cells #[.bool false, .slice none 0 0, .slice none 0 0] 25)) := ⟨_, rfl⟩
  rw [← hW]
  obtain ⟨xb0, hk, hb⟩ := boxes_1 _ _ _ hW
  clear hW
  have Na0b0 := Lib.hid (show w2.heap.size ≠ w4.heap.size from Nat.ne_of_lt (Nat.lt_of_lt_of_le Xa0.out.lt (by omega)))
  have Gb0 := Lib.hid (show w.heap.size ≤ w4.heap.size from Nat.le_trans HB.out.size (by omega))
  have Xa0 := Lib.hid (Box.pcall hb Xa0.out)
  have Xb0 := Lib.hid xb0
  have HB := Lib.hid (below_call HB.out hb)
  clear hk hb xb0
  refine Calls.mono (ferr_n Hv.out) ?_
  rintro e w6 ⟨v6, rfl, rfl, hb⟩
  have Xa0 := Lib.hid (Box.pcall hb Xa0.out)
  have Xb0 := Lib.hid (Box.pcall hb Xb0.out)
  have HB := Lib.hid (below_call HB.out hb)
  clear hb
  obtain ⟨ca00, ca01, ca02, fa00, fa01, fa02⟩ := Xa0.out.c3
  have la0 := Xa0.out.lt
  obtain ⟨cb00, cb01, cb02, fb00, fb01, fb02⟩ := Xb0.out.c3
  have lb0 := Xb0.out.lt
  go_wp2_with fail
  clear ca00 ca01 ca02 fa00 fa01 fa02 la0 cb00 cb01 cb02 fb00 fb01 fb02 lb0
  obtain ⟨W7, hW⟩ : ∃ W7, W7 = (World.alloc w6 (.cells #[.bool false, .slice none 0 0, .slice none 0 0] 25)) := ⟨_, rfl⟩
  rw [← hW]
  obtain ⟨xc0, hk, hb⟩ := boxes_1 _ _ _ hW
  clear hW
  have Na0c0 := Lib.hid (show w2.heap.size ≠ w6.heap.size from Nat.ne_of_lt (Nat.lt_of_lt_of_le Xa0.out.lt (by omega)))
  have Nb0c0 := Lib.hid (show w4.heap.size ≠ w6.heap.size from Nat.ne_of_lt (Nat.lt_of_lt_of_le Xb0.out.lt (by omega)))
  have Gc0 := Lib.hid (show w.heap.size ≤ w6.heap.size from Nat.le_trans HB.out.size (by omega))
  have Xa0 := Lib.hid (Box.pcall hb Xa0.out)
  have Xb0 := Lib.hid (Box.pcall hb Xb0.out)
  have Xc0 := Lib.hid xc0
  have HB := Lib.hid (below_call HB.out hb)
  clear hk hb xc0
  refine Calls.mono (zerr_n Hv.out) ?_
  rintro e w8 ⟨v8, rfl, rfl, hb⟩
  have Xa0 := Lib.hid (Box.pcall hb Xa0.out)
  have Xb0 := Lib.hid (Box.pcall hb Xb0.out)
  have Xc0 := Lib.hid (Box.pcall hb Xc0.out)
  have HB := Lib.hid (below_call HB.out hb)
  clear hb
  obtain ⟨ca00, ca01, ca02, fa00, fa01, fa02⟩ := Xa0.out.c3
  have la0 := Xa0.out.lt
  obtain ⟨cb00, cb01, cb02, fb00, fb01, fb02⟩ := Xb0.out.c3
  have lb0 := Xb0.out.lt
  obtain ⟨cc00, cc01, cc02, fc00, fc01, fc02⟩ := Xc0.out.c3
  have lc0 := Xc0.out.lt
  go_wp2_with fail
  clear ca00 ca01 ca02 fa00 fa01 fa02 la0 cb00 cb01 cb02 fb00 fb01 fb02 lb0 cc00 cc01 cc02 fc00 fc01 fc02 lc0
  obtain ⟨W9, hW⟩ : ∃ W9, W9 = (World.alloc w8 (.cells #[.bool false, .slice none 0 0, .slice none 0 0] 25)) := ⟨_, rfl⟩
  rw [← hW]
  obtain ⟨xd0, hk, hb⟩ := boxes_1 _ _ _ hW
  clear hW
  have Na0d0 := Lib.hid (show w2.heap.size ≠ w8.heap.size from Nat.ne_of_lt (Nat.lt_of_lt_of_le Xa0.out.lt (by omega)))
  have Nb0d0 := Lib.hid (show w4.heap.size ≠ w8.heap.size from Nat.ne_of_lt (Nat.lt_of_lt_of_le Xb0.out.lt (by omega)))
  have Nc0d0 := Lib.hid (show w6.heap.size ≠ w8.heap.size from Nat.ne_of_lt (Nat.lt_of_lt_of_le Xc0.out.lt (by omega)))
  have Gd0 := Lib.hid (show w.heap.size ≤ w8.heap.size from Nat.le_trans HB.out.size (by omega))
  have Xa0 := Lib.hid (Box.pcall hb Xa0.out)
  have Xb0 := Lib.hid (Box.pcall hb Xb0.out)
  have Xc0 := Lib.hid (Box.pcall hb Xc0.out)
  have Xd0 := Lib.hid xd0
  have HB := Lib.hid (below_call HB.out hb)
  clear hk hb xd0
  refine Calls.mono (zcmp_ar 0 (CR.zero _).ar (CR.zero _).ar (cmpQ_self _) (by decide) (by decide)) ?_
  rintro e w10 ⟨v10, rfl, rfl, hb⟩
  have Xa0 := Lib.hid (Box.pcall hb Xa0.out)
  have Xb0 := Lib.hid (Box.pcall hb Xb0.out)
  have Xc0 := Lib.hid (Box.pcall hb Xc0.out)
  have Xd0 := Lib.hid (Box.pcall hb Xd0.out)
  have HB := Lib.hid (below_call HB.out hb)
  clear hb
  obtain ⟨ca00, ca01, ca02, fa00, fa01, fa02⟩ := Xa0.out.c3
  have la0 := Xa0.out.lt
  obtain ⟨cb00, cb01, cb02, fb00, fb01, fb02⟩ := Xb0.out.c3
  have lb0 := Xb0.out.lt
  obtain ⟨cc00, cc01, cc02, fc00, fc01, fc02⟩ := Xc0.out.c3
  have lc0 := Xc0.out.lt
  obtain ⟨cd00, cd01, cd02, fd00, fd01, fd02⟩ := Xd0.out.c3
  have ld0 := Xd0.out.lt
  go_wp2_with fail
  clear ca00 ca01 ca02 fa00 fa01 fa02 la0 cb00 cb01 cb02 fb00 fb01 fb02 lb0 cc00 cc01 cc02 fc00 fc01 fc02 lc0 cd00 cd01 cd02 fd00 fd01 fd02 ld0
  refine Calls.mono (zcmp_ar 0 (CR.zero _).ar (CR.zero _).ar (cmpQ_self _) (by decide) (by decide)) ?_
  rintro e w11 ⟨v11, rfl, rfl, hb⟩
  have Xa0 := Lib.hid (Box.pcall hb Xa0.out)
  have Xb0 := Lib.hid (Box.pcall hb Xb0.out)
  have Xc0 := Lib.hid (Box.pcall hb Xc0.out)
  have Xd0 := Lib.hid (Box.pcall hb Xd0.out)
  have HB := Lib.hid (below_call HB.out hb)
  clear hb
  obtain ⟨ca00, ca01, ca02, fa00, fa01, fa02⟩ := Xa0.out.c3
  have la0 := Xa0.out.lt
  obtain ⟨cb00, cb01, cb02, fb00, fb01, fb02⟩ := Xb0.out.c3
  have lb0 := Xb0.out.lt
  obtain ⟨cc00, cc01, cc02, fc00, fc01, fc02⟩ := Xc0.out.c3
  have lc0 := Xc0.out.lt
  obtain ⟨cd00, cd01, cd02, fd00, fd01, fd02⟩ := Xd0.out.c3
  have ld0 := Xd0.out.lt
  go_wp2
  clear ca00 ca01 ca02 fa00 fa01 fa02 la0 cb00 cb01 cb02 fb00 fb01 fb02 lb0 cc00 cc01 cc02 fc00 fc01 fc02 lc0 cd00 cd01 cd02 fd00 fd01 fd02 ld0
  go_ret
  exact ⟨_, rfl, rfl, HB.out⟩


theorem err_cmp (s : Nat) : cmpQ (((1 : Int) : Rat) / ((2 : Int) : Rat) * (((1 : Int) : Rat) / tw s)) (((1 : Int) : Rat) / tw (s + 1)) = 0 := by rw [err_eq]; exact cmpQ_self _

set_option maxRecDepth 100000 in
set_option maxHeartbeats 4000000 in
theorem lrat_g {x : Int} {s : Nat}  {w : World} (hs : s ≤ 62) (ha1 : -9223372036854775808 ≤ x) (ha2 : x < 9223372036854775808) (hg : decide (4611686018427387904 < x) = true)  :
    Calls Try.prog 9 #[.int .i64 x, .int .i64 ((s : Nat) : Int)] w (Ret w (Val (.bool true))) := by
  have Hs := Lib.hid hs
  have Ha1 := Lib.hid ha1
  have Ha2 := Lib.hid ha2
  clear hs ha1 ha2
  go_enter Try.func9, Try.ntmps9
  have HB := Lib.hid (Below.refl w.heap.size w)
  go_wp2_with fail
  refine Calls.mono (awake51) ?_
  rintro e w1 ⟨v1, rfl, rfl, hb⟩
  have HB := Lib.hid (below_call HB.out hb)
  clear hb
  go_wp2_with fail
  refine Calls.mono (frat_any Hs.out Ha1.out Ha2.out) ?_
  rintro e w2 ⟨t2, rfl, ⟨v2, rfl, hx1⟩, hb⟩
  obtain ⟨x1_b, x1_a, x1_n, x1_c, x1_d, x1_m, x1_e, rfl⟩ := hx1.litb
  have HB := Lib.hid (below_call HB.out hb)
  have Hx1 := Lib.hid hx1
  clear hb hx1
  go_wp2_with fail
  obtain ⟨W3, hW⟩ : ∃ W3, W3 = (World.alloc w2 (.cells #[.bool x1_b, .slice x1_a x1_n x1_c, .slice x1_d x1_m x1_e] 25)) := ⟨_, rfl⟩
  rw [← hW]
  obtain ⟨xa0, hk, hb⟩ := boxes_1 _ _ _ hW
  clear hW
  have Hx1 := Lib.hid (CR.keep Hx1.out hk)
  have Ga0 := Lib.hid (show w.heap.size ≤ w2.heap.size from Nat.le_trans HB.out.size (by omega))
  have Xa0 := Lib.hid xa0
  have HB := Lib.hid (below_call HB.out hb)
  clear hk hb xa0
  refine Calls.mono (zrat_any Hs.out Ha1.out Ha2.out) ?_
  rintro e w4 ⟨t4, rfl, ⟨v4, rfl, hx2⟩, hb⟩
  obtain ⟨x2_b, x2_a, x2_n, x2_c, x2_d, x2_m, x2_e, rfl⟩ := hx2.litb
  have Hx1 := Lib.hid (CR.keep Hx1.out (Keep.call hb))
  have Xa0 := Lib.hid (Box.pcall hb Xa0.out)
  have HB := Lib.hid (below_call HB.out hb)
  have Hx2 := Lib.hid hx2
  clear hb hx2
  obtain ⟨ca00, ca01, ca02, fa00, fa01, fa02⟩ := Xa0.out.c3
  have la0 := Xa0.out.lt
  go_wp2_with fail
  clear ca00 ca01 ca02 fa00 fa01 fa02 la0
  obtain ⟨W5, hW⟩ : ∃ W5, W5 = (World.alloc w4 (.cells #[.bool x2_b, .slice x2_a x2_n x2_c, .slice x2_d x2_m x2_e] 25)) := ⟨_, rfl⟩
  rw [← hW]
  obtain ⟨xb0, hk, hb⟩ := boxes_1 _ _ _ hW
  clear hW
  have Hx1 := Lib.hid (CR.keep Hx1.out hk)
  have Hx2 := Lib.hid (CR.keep Hx2.out hk)
  have Na0b0 := Lib.hid (show w2.heap.size ≠ w4.heap.size from Nat.ne_of_lt (Nat.lt_of_lt_of_le Xa0.out.lt (by omega)))
  have Gb0 := Lib.hid (show w.heap.size ≤ w4.heap.size from Nat.le_trans HB.out.size (by omega))
  have Xa0 := Lib.hid (Box.pcall hb Xa0.out)
  have Xb0 := Lib.hid xb0
  have HB := Lib.hid (below_call HB.out hb)
  clear hk hb xb0
  refine Calls.mono (ferr_any Hs.out) ?_
  rintro e w6 ⟨t6, rfl, ⟨v6, rfl, he1⟩, hb⟩
  obtain ⟨e1_b, e1_a, e1_n, e1_c, e1_d, e1_m, e1_e, rfl⟩ := he1.litb
  have Hx1 := Lib.hid (CR.keep Hx1.out (Keep.call hb))
  have Hx2 := Lib.hid (CR.keep Hx2.out (Keep.call hb))
  have Xa0 := Lib.hid (Box.pcall hb Xa0.out)
  have Xb0 := Lib.hid (Box.pcall hb Xb0.out)
  have HB := Lib.hid (below_call HB.out hb)
  have He1 := Lib.hid he1
  clear hb he1
  obtain ⟨ca00, ca01, ca02, fa00, fa01, fa02⟩ := Xa0.out.c3
  have la0 := Xa0.out.lt
  obtain ⟨cb00, cb01, cb02, fb00, fb01, fb02⟩ := Xb0.out.c3
  have lb0 := Xb0.out.lt
  go_wp2_with fail
  clear ca00 ca01 ca02 fa00 fa01 fa02 la0 cb00 cb01 cb02 fb00 fb01 fb02 lb0
  obtain ⟨W7, hW⟩ : ∃ W7, W7 = (World.alloc w6 (.cells #[.bool e1_b, .slice e1_a e1_n e1_c, .slice e1_d e1_m e1_e] 25)) := ⟨_, rfl⟩
  rw [← hW]
  obtain ⟨xc0, hk, hb⟩ := boxes_1 _ _ _ hW
  clear hW
  have Hx1 := Lib.hid (CR.keep Hx1.out hk)
  have Hx2 := Lib.hid (CR.keep Hx2.out hk)
  have He1 := Lib.hid (CR.keep He1.out hk)
  have Na0c0 := Lib.hid (show w2.heap.size ≠ w6.heap.size from Nat.ne_of_lt (Nat.lt_of_lt_of_le Xa0.out.lt (by omega)))
  have Nb0c0 := Lib.hid (show w4.heap.size ≠ w6.heap.size from Nat.ne_of_lt (Nat.lt_of_lt_of_le Xb0.out.lt (by omega)))
  have Gc0 := Lib.hid (show w.heap.size ≤ w6.heap.size from Nat.le_trans HB.out.size (by omega))
  have Xa0 := Lib.hid (Box.pcall hb Xa0.out)
  have Xb0 := Lib.hid (Box.pcall hb Xb0.out)
  have Xc0 := Lib.hid xc0
  have HB := Lib.hid (below_call HB.out hb)
  clear hk hb xc0
  refine Calls.mono (zerr_any Hs.out) ?_
  rintro e w8 ⟨t8, rfl, ⟨v8, rfl, he2⟩, hb⟩
  obtain ⟨e2_b, e2_a, e2_n, e2_c, e2_d, e2_m, e2_e, rfl⟩ := he2.litb
  have Hx1 := Lib.hid (CR.keep Hx1.out (Keep.call hb))
  have Hx2 := Lib.hid (CR.keep Hx2.out (Keep.call hb))
  have He1 := Lib.hid (CR.keep He1.out (Keep.call hb))
  have Xa0 := Lib.hid (Box.pcall hb Xa0.out)
  have Xb0 := Lib.hid (Box.pcall hb Xb0.out)
  have Xc0 := Lib.hid (Box.pcall hb Xc0.out)
  have HB := Lib.hid (below_call HB.out hb)
  have He2 := Lib.hid he2
  clear hb he2
  obtain ⟨ca00, ca01, ca02, fa00, fa01, fa02⟩ := Xa0.out.c3
  have la0 := Xa0.out.lt
  obtain ⟨cb00, cb01, cb02, fb00, fb01, fb02⟩ := Xb0.out.c3
  have lb0 := Xb0.out.lt
  obtain ⟨cc00, cc01, cc02, fc00, fc01, fc02⟩ := Xc0.out.c3
  have lc0 := Xc0.out.lt
  go_wp2_with fail
  clear ca00 ca01 ca02 fa00 fa01 fa02 la0 cb00 cb01 cb02 fb00 fb01 fb02 lb0 cc00 cc01 cc02 fc00 fc01 fc02 lc0
  obtain ⟨W9, hW⟩ : ∃ W9, W9 = (World.alloc w8 (.cells #[.bool e2_b, .slice e2_a e2_n e2_c, .slice e2_d e2_m e2_e] 25)) := ⟨_, rfl⟩
  rw [← hW]
  obtain ⟨xd0, hk, hb⟩ := boxes_1 _ _ _ hW
  clear hW
  have Hx1 := Lib.hid (CR.keep Hx1.out hk)
  have Hx2 := Lib.hid (CR.keep Hx2.out hk)
  have He1 := Lib.hid (CR.keep He1.out hk)
  have He2 := Lib.hid (CR.keep He2.out hk)
  have Na0d0 := Lib.hid (show w2.heap.size ≠ w8.heap.size from Nat.ne_of_lt (Nat.lt_of_lt_of_le Xa0.out.lt (by omega)))
  have Nb0d0 := Lib.hid (show w4.heap.size ≠ w8.heap.size from Nat.ne_of_lt (Nat.lt_of_lt_of_le Xb0.out.lt (by omega)))
  have Nc0d0 := Lib.hid (show w6.heap.size ≠ w8.heap.size from Nat.ne_of_lt (Nat.lt_of_lt_of_le Xc0.out.lt (by omega)))
  have Gd0 := Lib.hid (show w.heap.size ≤ w8.heap.size from Nat.le_trans HB.out.size (by omega))
  have Xa0 := Lib.hid (Box.pcall hb Xa0.out)
  have Xb0 := Lib.hid (Box.pcall hb Xb0.out)
  have Xc0 := Lib.hid (Box.pcall hb Xc0.out)
  have Xd0 := Lib.hid xd0
  have HB := Lib.hid (below_call HB.out hb)
  clear hk hb xd0
  refine Calls.mono (zcmp_ar 0 Hx1.out.ar Hx2.out.ar (cmpQ_self _) (by decide) (by decide)) ?_
  rintro e w10 ⟨v10, rfl, rfl, hb⟩
  have He1 := Lib.hid (CR.keep He1.out (Keep.call hb))
  have He2 := Lib.hid (CR.keep He2.out (Keep.call hb))
  have Xa0 := Lib.hid (Box.pcall hb Xa0.out)
  have Xb0 := Lib.hid (Box.pcall hb Xb0.out)
  have Xc0 := Lib.hid (Box.pcall hb Xc0.out)
  have Xd0 := Lib.hid (Box.pcall hb Xd0.out)
  have HB := Lib.hid (below_call HB.out hb)
  clear hb
  obtain ⟨ca00, ca01, ca02, fa00, fa01, fa02⟩ := Xa0.out.c3
  have la0 := Xa0.out.lt
  obtain ⟨cb00, cb01, cb02, fb00, fb01, fb02⟩ := Xb0.out.c3
  have lb0 := Xb0.out.lt
  obtain ⟨cc00, cc01, cc02, fc00, fc01, fc02⟩ := Xc0.out.c3
  have lc0 := Xc0.out.lt
  obtain ⟨cd00, cd01, cd02, fd00, fd01, fd02⟩ := Xd0.out.c3
  have ld0 := Xd0.out.lt
  go_wp2_with fail
  clear ca00 ca01 ca02 fa00 fa01 fa02 la0 cb00 cb01 cb02 fb00 fb01 fb02 lb0 cc00 cc01 cc02 fc00 fc01 fc02 lc0 cd00 cd01 cd02 fd00 fd01 fd02 ld0
  (first | (have hcall := zcmp_ar 0 He1.out.ar He2.out.ar (err_cmp s) (by decide) (by decide); refine Calls.mono hcall ?_; clear hcall) | refine Calls.mono (zcmp_ar 0 He1.out.ar He2.out.ar (err_cmp s) (by decide) (by decide)) ?_)
  rintro e w11 ⟨v11, rfl, rfl, hb⟩
  have Xa0 := Lib.hid (Box.pcall hb Xa0.out)
  have Xb0 := Lib.hid (Box.pcall hb Xb0.out)
  have Xc0 := Lib.hid (Box.pcall hb Xc0.out)
  have Xd0 := Lib.hid (Box.pcall hb Xd0.out)
  have HB := Lib.hid (below_call HB.out hb)
  clear hb
  obtain ⟨ca00, ca01, ca02, fa00, fa01, fa02⟩ := Xa0.out.c3
  have la0 := Xa0.out.lt
  obtain ⟨cb00, cb01, cb02, fb00, fb01, fb02⟩ := Xb0.out.c3
  have lb0 := Xb0.out.lt
  obtain ⟨cc00, cc01, cc02, fc00, fc01, fc02⟩ := Xc0.out.c3
  have lc0 := Xc0.out.lt
  obtain ⟨cd00, cd01, cd02, fd00, fd01, fd02⟩ := Xd0.out.c3
  have ld0 := Xd0.out.lt
  go_wp2
  clear ca00 ca01 ca02 fa00 fa01 fa02 la0 cb00 cb01 cb02 fb00 fb01 fb02 lb0 cc00 cc01 cc02 fc00 fc01 fc02 lc0 cd00 cd01 cd02 fd00 fd01 fd02 ld0
  go_ret
  exact ⟨_, rfl, rfl, HB.out⟩


set_option maxRecDepth 100000 in
set_option maxHeartbeats 4000000 in
theorem lrat_l {x : Int} {s : Nat}  {w : World} (hs : s ≤ 62) (ha1 : -9223372036854775808 ≤ x) (ha2 : x < 9223372036854775808) (hg : decide (4611686018427387904 < x) = false) (hl : decide (x < -4611686018427387904) = true)  :
    Calls Try.prog 9 #[.int .i64 x, .int .i64 ((s : Nat) : Int)] w (Ret w (Val (.bool true))) := by
  have Hs := Lib.hid hs
  have Ha1 := Lib.hid ha1
  have Ha2 := Lib.hid ha2
  clear hs ha1 ha2
  go_enter Try.func9, Try.ntmps9
  have HB := Lib.hid (Below.refl w.heap.size w)
  go_wp2_with fail
  refine Calls.mono (awake51) ?_
  rintro e w1 ⟨v1, rfl, rfl, hb⟩
  have HB := Lib.hid (below_call HB.out hb)
  clear hb
  go_wp2_with fail
  refine Calls.mono (frat_any Hs.out Ha1.out Ha2.out) ?_
  rintro e w2 ⟨t2, rfl, ⟨v2, rfl, hx1⟩, hb⟩
  obtain ⟨x1_b, x1_a, x1_n, x1_c, x1_d, x1_m, x1_e, rfl⟩ := hx1.litb
  have HB := Lib.hid (below_call HB.out hb)
  have Hx1 := Lib.hid hx1
  clear hb hx1
  go_wp2_with fail
  obtain ⟨W3, hW⟩ : ∃ W3, W3 = (World.alloc w2 (.cells #[.bool x1_b, .slice x1_a x1_n x1_c, .slice x1_d x1_m x1_e] 25)) := ⟨_, rfl⟩
  rw [← hW]
  obtain ⟨xa0, hk, hb⟩ := boxes_1 _ _ _ hW
  clear hW
  have Hx1 := Lib.hid (CR.keep Hx1.out hk)
  have Ga0 := Lib.hid (show w.heap.size ≤ w2.heap.size from Nat.le_trans HB.out.size (by omega))
  have Xa0 := Lib.hid xa0
  have HB := Lib.hid (below_call HB.out hb)
  clear hk hb xa0
  refine Calls.mono (zrat_any Hs.out Ha1.out Ha2.out) ?_
  rintro e w4 ⟨t4, rfl, ⟨v4, rfl, hx2⟩, hb⟩
  obtain ⟨x2_b, x2_a, x2_n, x2_c, x2_d, x2_m, x2_e, rfl⟩ := hx2.litb
  have Hx1 := Lib.hid (CR.keep Hx1.out (Keep.call hb))
  have Xa0 := Lib.hid (Box.pcall hb Xa0.out)
  have HB := Lib.hid (below_call HB.out hb)
  have Hx2 := Lib.hid hx2
  clear hb hx2
  obtain ⟨ca00, ca01, ca02, fa00, fa01, fa02⟩ := Xa0.out.c3
  have la0 := Xa0.out.lt
  go_wp2_with fail
  clear ca00 ca01 ca02 fa00 fa01 fa02 la0
  obtain ⟨W5, hW⟩ : ∃ W5, W5 = (World.alloc w4 (.cells #[.bool x2_b, .slice x2_a x2_n x2_c, .slice x2_d x2_m x2_e] 25)) := ⟨_, rfl⟩
  rw [← hW]
  obtain ⟨xb0, hk, hb⟩ := boxes_1 _ _ _ hW
  clear hW
  have Hx1 := Lib.hid (CR.keep Hx1.out hk)
  have Hx2 := Lib.hid (CR.keep Hx2.out hk)
  have Na0b0 := Lib.hid (show w2.heap.size ≠ w4.heap.size from Nat.ne_of_lt (Nat.lt_of_lt_of_le Xa0.out.lt (by omega)))
  have Gb0 := Lib.hid (show w.heap.size ≤ w4.heap.size from Nat.le_trans HB.out.size (by omega))
  have Xa0 := Lib.hid (Box.pcall hb Xa0.out)
  have Xb0 := Lib.hid xb0
  have HB := Lib.hid (below_call HB.out hb)
  clear hk hb xb0
  refine Calls.mono (ferr_any Hs.out) ?_
  rintro e w6 ⟨t6, rfl, ⟨v6, rfl, he1⟩, hb⟩
  obtain ⟨e1_b, e1_a, e1_n, e1_c, e1_d, e1_m, e1_e, rfl⟩ := he1.litb
  have Hx1 := Lib.hid (CR.keep Hx1.out (Keep.call hb))
  have Hx2 := Lib.hid (CR.keep Hx2.out (Keep.call hb))
  have Xa0 := Lib.hid (Box.pcall hb Xa0.out)
  have Xb0 := Lib.hid (Box.pcall hb Xb0.out)
  have HB := Lib.hid (below_call HB.out hb)
  have He1 := Lib.hid he1
  clear hb he1
  obtain ⟨ca00, ca01, ca02, fa00, fa01, fa02⟩ := Xa0.out.c3
  have la0 := Xa0.out.lt
  obtain ⟨cb00, cb01, cb02, fb00, fb01, fb02⟩ := Xb0.out.c3
  have lb0 := Xb0.out.lt
  go_wp2_with fail
  clear ca00 ca01 ca02 fa00 fa01 fa02 la0 cb00 cb01 cb02 fb00 fb01 fb02 lb0
  obtain ⟨W7, hW⟩ : ∃ W7, W7 = (World.alloc w6 (.cells #[.bool e1_b, .slice e1_a e1_n e1_c, .slice e1_d e1_m e1_e] 25)) := ⟨_, rfl⟩
  rw [← hW]
  obtain ⟨xc0, hk, hb⟩ := boxes_1 _ _ _ hW
  clear hW
  have Hx1 := Lib.hid (CR.keep Hx1.out hk)
  have Hx2 := Lib.hid (CR.keep Hx2.out hk)
  have He1 := Lib.hid (CR.keep He1.out hk)
  have Na0c0 := Lib.hid (show w2.heap.size ≠ w6.heap.size from Nat.ne_of_lt (Nat.lt_of_lt_of_le Xa0.out.lt (by omega)))
  have Nb0c0 := Lib.hid (show w4.heap.size ≠ w6.heap.size from Nat.ne_of_lt (Nat.lt_of_lt_of_le Xb0.out.lt (by omega)))
  have Gc0 := Lib.hid (show w.heap.size ≤ w6.heap.size from Nat.le_trans HB.out.size (by omega))
  have Xa0 := Lib.hid (Box.pcall hb Xa0.out)
  have Xb0 := Lib.hid (Box.pcall hb Xb0.out)
  have Xc0 := Lib.hid xc0
  have HB := Lib.hid (below_call HB.out hb)
  clear hk hb xc0
  refine Calls.mono (zerr_any Hs.out) ?_
  rintro e w8 ⟨t8, rfl, ⟨v8, rfl, he2⟩, hb⟩
  obtain ⟨e2_b, e2_a, e2_n, e2_c, e2_d, e2_m, e2_e, rfl⟩ := he2.litb
  have Hx1 := Lib.hid (CR.keep Hx1.out (Keep.call hb))
  have Hx2 := Lib.hid (CR.keep Hx2.out (Keep.call hb))
  have He1 := Lib.hid (CR.keep He1.out (Keep.call hb))
  have Xa0 := Lib.hid (Box.pcall hb Xa0.out)
  have Xb0 := Lib.hid (Box.pcall hb Xb0.out)
  have Xc0 := Lib.hid (Box.pcall hb Xc0.out)
  have HB := Lib.hid (below_call HB.out hb)
  have He2 := Lib.hid he2
  clear hb he2
  obtain ⟨ca00, ca01, ca02, fa00, fa01, fa02⟩ := Xa0.out.c3
  have la0 := Xa0.out.lt
  obtain ⟨cb00, cb01, cb02, fb00, fb01, fb02⟩ := Xb0.out.c3
  have lb0 := Xb0.out.lt
  obtain ⟨cc00, cc01, cc02, fc00, fc01, fc02⟩ := Xc0.out.c3
  have lc0 := Xc0.out.lt
  go_wp2_with fail
  clear ca00 ca01 ca02 fa00 fa01 fa02 la0 cb00 cb01 cb02 fb00 fb01 fb02 lb0 cc00 cc01 cc02 fc00 fc01 fc02 lc0
  obtain ⟨W9, hW⟩ : ∃ W9, W9 = (World.alloc w8 (.cells #[.bool e2_b, .slice e2_a e2_n e2_c, .slice e2_d e2_m e2_e] 25)) := ⟨_, rfl⟩
  rw [← hW]
  obtain ⟨xd0, hk, hb⟩ := boxes_1 _ _ _ hW
  clear hW
  have Hx1 := Lib.hid (CR.keep Hx1.out hk)
  have Hx2 := Lib.hid (CR.keep Hx2.out hk)
  have He1 := Lib.hid (CR.keep He1.out hk)
  have He2 := Lib.hid (CR.keep He2.out hk)
  have Na0d0 := Lib.hid (show w2.heap.size ≠ w8.heap.size from Nat.ne_of_lt (Nat.lt_of_lt_of_le Xa0.out.lt (by omega)))
  have Nb0d0 := Lib.hid (show w4.heap.size ≠ w8.heap.size from Nat.ne_of_lt (Nat.lt_of_lt_of_le Xb0.out.lt (by omega)))
  have Nc0d0 := Lib.hid (show w6.heap.size ≠ w8.heap.size from Nat.ne_of_lt (Nat.lt_of_lt_of_le Xc0.out.lt (by omega)))
  have Gd0 := Lib.hid (show w.heap.size ≤ w8.heap.size from Nat.le_trans HB.out.size (by omega))
  have Xa0 := Lib.hid (Box.pcall hb Xa0.out)
  have Xb0 := Lib.hid (Box.pcall hb Xb0.out)
  have Xc0 := Lib.hid (Box.pcall hb Xc0.out)
  have Xd0 := Lib.hid xd0
  have HB := Lib.hid (below_call HB.out hb)
  clear hk hb xd0
  refine Calls.mono (zcmp_ar 0 Hx1.out.ar Hx2.out.ar (cmpQ_self _) (by decide) (by decide)) ?_
  rintro e w10 ⟨v10, rfl, rfl, hb⟩
  have He1 := Lib.hid (CR.keep He1.out (Keep.call hb))
  have He2 := Lib.hid (CR.keep He2.out (Keep.call hb))
  have Xa0 := Lib.hid (Box.pcall hb Xa0.out)
  have Xb0 := Lib.hid (Box.pcall hb Xb0.out)
  have Xc0 := Lib.hid (Box.pcall hb Xc0.out)
  have Xd0 := Lib.hid (Box.pcall hb Xd0.out)
  have HB := Lib.hid (below_call HB.out hb)
  clear hb
  obtain ⟨ca00, ca01, ca02, fa00, fa01, fa02⟩ := Xa0.out.c3
  have la0 := Xa0.out.lt
  obtain ⟨cb00, cb01, cb02, fb00, fb01, fb02⟩ := Xb0.out.c3
  have lb0 := Xb0.out.lt
  obtain ⟨cc00, cc01, cc02, fc00, fc01, fc02⟩ := Xc0.out.c3
  have lc0 := Xc0.out.lt
  obtain ⟨cd00, cd01, cd02, fd00, fd01, fd02⟩ := Xd0.out.c3
  have ld0 := Xd0.out.lt
  go_wp2_with fail
  clear ca00 ca01 ca02 fa00 fa01 fa02 la0 cb00 cb01 cb02 fb00 fb01 fb02 lb0 cc00 cc01 cc02 fc00 fc01 fc02 lc0 cd00 cd01 cd02 fd00 fd01 fd02 ld0
  (first | (have hcall := zcmp_ar 0 He1.out.ar He2.out.ar (err_cmp s) (by decide) (by decide); refine Calls.mono hcall ?_; clear hcall) | refine Calls.mono (zcmp_ar 0 He1.out.ar He2.out.ar (err_cmp s) (by decide) (by decide)) ?_)
  rintro e w11 ⟨v11, rfl, rfl, hb⟩
  have Xa0 := Lib.hid (Box.pcall hb Xa0.out)
  have Xb0 := Lib.hid (Box.pcall hb Xb0.out)
  have Xc0 := Lib.hid (Box.pcall hb Xc0.out)
  have Xd0 := Lib.hid (Box.pcall hb Xd0.out)
  have HB := Lib.hid (below_call HB.out hb)
  clear hb
  obtain ⟨ca00, ca01, ca02, fa00, fa01, fa02⟩ := Xa0.out.c3
  have la0 := Xa0.out.lt
  obtain ⟨cb00, cb01, cb02, fb00, fb01, fb02⟩ := Xb0.out.c3
  have lb0 := Xb0.out.lt
  obtain ⟨cc00, cc01, cc02, fc00, fc01, fc02⟩ := Xc0.out.c3
  have lc0 := Xc0.out.lt
  obtain ⟨cd00, cd01, cd02, fd00, fd01, fd02⟩ := Xd0.out.c3
  have ld0 := Xd0.out.lt
  go_wp2
  clear ca00 ca01 ca02 fa00 fa01 fa02 la0 cb00 cb01 cb02 fb00 fb01 fb02 lb0 cc00 cc01 cc02 fc00 fc01 fc02 lc0 cd00 cd01 cd02 fd00 fd01 fd02 ld0
  go_ret
  exact ⟨_, rfl, rfl, HB.out⟩


set_option maxRecDepth 100000 in
set_option maxHeartbeats 4000000 in
theorem lrat_y {x : Int} {s : Nat}  {w : World} (hs : s ≤ 62) (ha1 : -9223372036854775808 ≤ x) (ha2 : x < 9223372036854775808) (hg : decide (4611686018427387904 < x) = false) (hl : decide (x < -4611686018427387904) = false) (hf : FR ((x : Rat) / tw s) ((s : Nat) : Int) = (x, 0))  :
    Calls Try.prog 9 #[.int .i64 x, .int .i64 ((s : Nat) : Int)] w (Ret w (Val (.bool true))) := by
  have Hs := Lib.hid hs
  have Ha1 := Lib.hid ha1
  have Ha2 := Lib.hid ha2
  have Hf := Lib.hid hf
  clear hs ha1 ha2 hf
  go_enter Try.func9, Try.ntmps9
  have HB := Lib.hid (Below.refl w.heap.size w)
  go_wp2_with fail
  refine Calls.mono (awake51) ?_
  rintro e w1 ⟨v1, rfl, rfl, hb⟩
  have HB := Lib.hid (below_call HB.out hb)
  clear hb
  go_wp2_with fail
  refine Calls.mono (frat_any Hs.out Ha1.out Ha2.out) ?_
  rintro e w2 ⟨t2, rfl, ⟨v2, rfl, hx1⟩, hb⟩
  obtain ⟨x1_b, x1_a, x1_n, x1_c, x1_d, x1_m, x1_e, rfl⟩ := hx1.litb
  have HB := Lib.hid (below_call HB.out hb)
  have Hx1 := Lib.hid hx1
  clear hb hx1
  go_wp2_with fail
  obtain ⟨W3, hW⟩ : ∃ W3, W3 = (World.alloc w2 (.cells #[.bool x1_b, .slice x1_a x1_n x1_c, .slice x1_d x1_m x1_e] 25)) := ⟨_, rfl⟩
  rw [← hW]
  obtain ⟨xa0, hk, hb⟩ := boxes_1 _ _ _ hW
  clear hW
  have Hx1 := Lib.hid (CR.keep Hx1.out hk)
  have Ga0 := Lib.hid (show w.heap.size ≤ w2.heap.size from Nat.le_trans HB.out.size (by omega))
  have Xa0 := Lib.hid xa0
  have HB := Lib.hid (below_call HB.out hb)
  clear hk hb xa0
  refine Calls.mono (zrat_any Hs.out Ha1.out Ha2.out) ?_
  rintro e w4 ⟨t4, rfl, ⟨v4, rfl, hx2⟩, hb⟩
  obtain ⟨x2_b, x2_a, x2_n, x2_c, x2_d, x2_m, x2_e, rfl⟩ := hx2.litb
  have Hx1 := Lib.hid (CR.keep Hx1.out (Keep.call hb))
  have Xa0 := Lib.hid (Box.pcall hb Xa0.out)
  have HB := Lib.hid (below_call HB.out hb)
  have Hx2 := Lib.hid hx2
  clear hb hx2
  obtain ⟨ca00, ca01, ca02, fa00, fa01, fa02⟩ := Xa0.out.c3
  have la0 := Xa0.out.lt
  go_wp2_with fail
  clear ca00 ca01 ca02 fa00 fa01 fa02 la0
  obtain ⟨W5, hW⟩ : ∃ W5, W5 = (World.alloc w4 (.cells #[.bool x2_b, .slice x2_a x2_n x2_c, .slice x2_d x2_m x2_e] 25)) := ⟨_, rfl⟩
  rw [← hW]
  obtain ⟨xb0, hk, hb⟩ := boxes_1 _ _ _ hW
  clear hW
  have Hx1 := Lib.hid (CR.keep Hx1.out hk)
  have Hx2 := Lib.hid (CR.keep Hx2.out hk)
  have Na0b0 := Lib.hid (show w2.heap.size ≠ w4.heap.size from Nat.ne_of_lt (Nat.lt_of_lt_of_le Xa0.out.lt (by omega)))
  have Gb0 := Lib.hid (show w.heap.size ≤ w4.heap.size from Nat.le_trans HB.out.size (by omega))
  have Xa0 := Lib.hid (Box.pcall hb Xa0.out)
  have Xb0 := Lib.hid xb0
  have HB := Lib.hid (below_call HB.out hb)
  clear hk hb xb0
  refine Calls.mono (ferr_any Hs.out) ?_
  rintro e w6 ⟨t6, rfl, ⟨v6, rfl, he1⟩, hb⟩
  obtain ⟨e1_b, e1_a, e1_n, e1_c, e1_d, e1_m, e1_e, rfl⟩ := he1.litb
  have Hx1 := Lib.hid (CR.keep Hx1.out (Keep.call hb))
  have Hx2 := Lib.hid (CR.keep Hx2.out (Keep.call hb))
  have Xa0 := Lib.hid (Box.pcall hb Xa0.out)
  have Xb0 := Lib.hid (Box.pcall hb Xb0.out)
  have HB := Lib.hid (below_call HB.out hb)
  have He1 := Lib.hid he1
  clear hb he1
  obtain ⟨ca00, ca01, ca02, fa00, fa01, fa02⟩ := Xa0.out.c3
  have la0 := Xa0.out.lt
  obtain ⟨cb00, cb01, cb02, fb00, fb01, fb02⟩ := Xb0.out.c3
  have lb0 := Xb0.out.lt
  go_wp2_with fail
  clear ca00 ca01 ca02 fa00 fa01 fa02 la0 cb00 cb01 cb02 fb00 fb01 fb02 lb0
  obtain ⟨W7, hW⟩ : ∃ W7, W7 = (World.alloc w6 (.cells #[.bool e1_b, .slice e1_a e1_n e1_c, .slice e1_d e1_m e1_e] 25)) := ⟨_, rfl⟩
  rw [← hW]
  obtain ⟨xc0, hk, hb⟩ := boxes_1 _ _ _ hW
  clear hW
  have Hx1 := Lib.hid (CR.keep Hx1.out hk)
  have Hx2 := Lib.hid (CR.keep Hx2.out hk)
  have He1 := Lib.hid (CR.keep He1.out hk)
  have Na0c0 := Lib.hid (show w2.heap.size ≠ w6.heap.size from Nat.ne_of_lt (Nat.lt_of_lt_of_le Xa0.out.lt (by omega)))
  have Nb0c0 := Lib.hid (show w4.heap.size ≠ w6.heap.size from Nat.ne_of_lt (Nat.lt_of_lt_of_le Xb0.out.lt (by omega)))
  have Gc0 := Lib.hid (show w.heap.size ≤ w6.heap.size from Nat.le_trans HB.out.size (by omega))
  have Xa0 := Lib.hid (Box.pcall hb Xa0.out)
  have Xb0 := Lib.hid (Box.pcall hb Xb0.out)
  have Xc0 := Lib.hid xc0
  have HB := Lib.hid (below_call HB.out hb)
  clear hk hb xc0
  refine Calls.mono (zerr_any Hs.out) ?_
  rintro e w8 ⟨t8, rfl, ⟨v8, rfl, he2⟩, hb⟩
  obtain ⟨e2_b, e2_a, e2_n, e2_c, e2_d, e2_m, e2_e, rfl⟩ := he2.litb
  have Hx1 := Lib.hid (CR.keep Hx1.out (Keep.call hb))
  have Hx2 := Lib.hid (CR.keep Hx2.out (Keep.call hb))
  have He1 := Lib.hid (CR.keep He1.out (Keep.call hb))
  have Xa0 := Lib.hid (Box.pcall hb Xa0.out)
  have Xb0 := Lib.hid (Box.pcall hb Xb0.out)
  have Xc0 := Lib.hid (Box.pcall hb Xc0.out)
  have HB := Lib.hid (below_call HB.out hb)
  have He2 := Lib.hid he2
  clear hb he2
  obtain ⟨ca00, ca01, ca02, fa00, fa01, fa02⟩ := Xa0.out.c3
  have la0 := Xa0.out.lt
  obtain ⟨cb00, cb01, cb02, fb00, fb01, fb02⟩ := Xb0.out.c3
  have lb0 := Xb0.out.lt
  obtain ⟨cc00, cc01, cc02, fc00, fc01, fc02⟩ := Xc0.out.c3
  have lc0 := Xc0.out.lt
  go_wp2_with fail
  clear ca00 ca01 ca02 fa00 fa01 fa02 la0 cb00 cb01 cb02 fb00 fb01 fb02 lb0 cc00 cc01 cc02 fc00 fc01 fc02 lc0
  obtain ⟨W9, hW⟩ : ∃ W9, W9 = (World.alloc w8 (.cells #[.bool e2_b, .slice e2_a e2_n e2_c, .slice e2_d e2_m e2_e] 25)) := ⟨_, rfl⟩
  rw [← hW]
  obtain ⟨xd0, hk, hb⟩ := boxes_1 _ _ _ hW
  clear hW
  have Hx1 := Lib.hid (CR.keep Hx1.out hk)
  have Hx2 := Lib.hid (CR.keep Hx2.out hk)
  have He1 := Lib.hid (CR.keep He1.out hk)
  have He2 := Lib.hid (CR.keep He2.out hk)
  have Na0d0 := Lib.hid (show w2.heap.size ≠ w8.heap.size from Nat.ne_of_lt (Nat.lt_of_lt_of_le Xa0.out.lt (by omega)))
  have Nb0d0 := Lib.hid (show w4.heap.size ≠ w8.heap.size from Nat.ne_of_lt (Nat.lt_of_lt_of_le Xb0.out.lt (by omega)))
  have Nc0d0 := Lib.hid (show w6.heap.size ≠ w8.heap.size from Nat.ne_of_lt (Nat.lt_of_lt_of_le Xc0.out.lt (by omega)))
  have Gd0 := Lib.hid (show w.heap.size ≤ w8.heap.size from Nat.le_trans HB.out.size (by omega))
  have Xa0 := Lib.hid (Box.pcall hb Xa0.out)
  have Xb0 := Lib.hid (Box.pcall hb Xb0.out)
  have Xc0 := Lib.hid (Box.pcall hb Xc0.out)
  have Xd0 := Lib.hid xd0
  have HB := Lib.hid (below_call HB.out hb)
  clear hk hb xd0
  refine Calls.mono (zcmp_ar 0 Hx1.out.ar Hx2.out.ar (cmpQ_self _) (by decide) (by decide)) ?_
  rintro e w10 ⟨v10, rfl, rfl, hb⟩
  have Hx1 := Lib.hid (CR.keep Hx1.out (Keep.call hb))
  have He1 := Lib.hid (CR.keep He1.out (Keep.call hb))
  have He2 := Lib.hid (CR.keep He2.out (Keep.call hb))
  have Xa0 := Lib.hid (Box.pcall hb Xa0.out)
  have Xb0 := Lib.hid (Box.pcall hb Xb0.out)
  have Xc0 := Lib.hid (Box.pcall hb Xc0.out)
  have Xd0 := Lib.hid (Box.pcall hb Xd0.out)
  have HB := Lib.hid (below_call HB.out hb)
  clear hb
  obtain ⟨ca00, ca01, ca02, fa00, fa01, fa02⟩ := Xa0.out.c3
  have la0 := Xa0.out.lt
  obtain ⟨cb00, cb01, cb02, fb00, fb01, fb02⟩ := Xb0.out.c3
  have lb0 := Xb0.out.lt
  obtain ⟨cc00, cc01, cc02, fc00, fc01, fc02⟩ := Xc0.out.c3
  have lc0 := Xc0.out.lt
  obtain ⟨cd00, cd01, cd02, fd00, fd01, fd02⟩ := Xd0.out.c3
  have ld0 := Xd0.out.lt
  go_wp2_with fail
  clear ca00 ca01 ca02 fa00 fa01 fa02 la0 cb00 cb01 cb02 fb00 fb01 fb02 lb0 cc00 cc01 cc02 fc00 fc01 fc02 lc0 cd00 cd01 cd02 fd00 fd01 fd02 ld0
  (first | (have hcall := zcmp_ar 0 He1.out.ar He2.out.ar (err_cmp s) (by decide) (by decide); refine Calls.mono hcall ?_; clear hcall) | refine Calls.mono (zcmp_ar 0 He1.out.ar He2.out.ar (err_cmp s) (by decide) (by decide)) ?_)
  rintro e w11 ⟨v11, rfl, rfl, hb⟩
  have Hx1 := Lib.hid (CR.keep Hx1.out (Keep.call hb))
  have Xa0 := Lib.hid (Box.pcall hb Xa0.out)
  have Xb0 := Lib.hid (Box.pcall hb Xb0.out)
  have Xc0 := Lib.hid (Box.pcall hb Xc0.out)
  have Xd0 := Lib.hid (Box.pcall hb Xd0.out)
  have HB := Lib.hid (below_call HB.out hb)
  clear hb
  obtain ⟨ca00, ca01, ca02, fa00, fa01, fa02⟩ := Xa0.out.c3
  have la0 := Xa0.out.lt
  obtain ⟨cb00, cb01, cb02, fb00, fb01, fb02⟩ := Xb0.out.c3
  have lb0 := Xb0.out.lt
  obtain ⟨cc00, cc01, cc02, fc00, fc01, fc02⟩ := Xc0.out.c3
  have lc0 := Xc0.out.lt
  obtain ⟨cd00, cd01, cd02, fd00, fd01, fd02⟩ := Xd0.out.c3
  have ld0 := Xd0.out.lt
  go_wp2_with fail
  clear ca00 ca01 ca02 fa00 fa01 fa02 la0 cb00 cb01 cb02 fb00 fb01 fb02 lb0 cc00 cc01 cc02 fc00 fc01 fc02 lc0 cd00 cd01 cd02 fd00 fd01 fd02 ld0
  (first | (have hcall := fround_ar Hf.out Hx1.out.ar (by decide); refine Calls.mono hcall ?_; clear hcall) | refine Calls.mono (fround_ar Hf.out Hx1.out.ar (by decide)) ?_)
  rintro e w12 ⟨v12, rfl, rfl, hb⟩
  have Xa0 := Lib.hid (Box.pcall hb Xa0.out)
  have Xb0 := Lib.hid (Box.pcall hb Xb0.out)
  have Xc0 := Lib.hid (Box.pcall hb Xc0.out)
  have Xd0 := Lib.hid (Box.pcall hb Xd0.out)
  have HB := Lib.hid (below_call HB.out hb)
  clear hb
  obtain ⟨ca00, ca01, ca02, fa00, fa01, fa02⟩ := Xa0.out.c3
  have la0 := Xa0.out.lt
  obtain ⟨cb00, cb01, cb02, fb00, fb01, fb02⟩ := Xb0.out.c3
  have lb0 := Xb0.out.lt
  obtain ⟨cc00, cc01, cc02, fc00, fc01, fc02⟩ := Xc0.out.c3
  have lc0 := Xc0.out.lt
  obtain ⟨cd00, cd01, cd02, fd00, fd01, fd02⟩ := Xd0.out.c3
  have ld0 := Xd0.out.lt
  go_wp2
  clear ca00 ca01 ca02 fa00 fa01 fa02 la0 cb00 cb01 cb02 fb00 fb01 fb02 lb0 cc00 cc01 cc02 fc00 fc01 fc02 lc0 cd00 cd01 cd02 fd00 fd01 fd02 ld0
  go_ret
  exact ⟨_, rfl, rfl, HB.out⟩


theorem SC_comm (x y s : Int) : SC y x s = SC x y s := by unfold SC; rw [Int.mul_comm]
theorem FixedScale_all (x y s : Int) (w : World) (h1 : (Lit.int .i64 x).wf = true) (h2 : (Lit.int .i64 y).wf = true) (h3 : (Lit.int .i64 s).wf = true) : Calls Try.prog 5 #[.int .i64 x, .int .i64 y, .int .i64 s] w (Ret w (Val (.bool true))) :=
  lscale (a := (SC x y s).1) (e := (SC x y s).2) (wf_i64 h1).1 (wf_i64 h1).2 (wf_i64 h2).1 (wf_i64 h2).2 rfl (SC_comm x y s)
theorem FixedSaturate_all (x y : Int) (w : World) (h1 : (Lit.int .i64 x).wf = true) (h2 : (Lit.int .i64 y).wf = true) : Calls Try.prog 6 #[.int .i64 x, .int .i64 y] w (Ret w (Val (.bool true))) := lsat
theorem FixedRound_all (bx : Bool) (sx : Option Addr) (nx cx : Nat) (tx : Option Addr) (mx ex : Nat) (s : Int) (w : World) (rx : Row w (.slice sx nx cx) nx) (ux : Row w (.slice tx mx ex) mx) (h3 : (Lit.int .i64 s).wf = true) : Calls Try.prog 3 #[.agg #[.bool bx, .slice sx nx cx, .slice tx mx ex], .int .i64 s] w (Ret w (Val (.bool true))) := by
  obtain ⟨B, h1, h2⟩ := sv_of (b := bx) rx ux
  cases B
  · exact lrm_n h1
  · obtain ⟨q, hq⟩ := h2 rfl
    exact lrm_y (a := (FR q s).1) (e := (FR q s).2) rfl h1 hq
theorem RV_neg (q : Rat) : RV (-q) = (if 4611686018427387904 < rN q then (0, 2) else (-rI q, 0)) := by unfold RV; rw [rN_neg, rI_neg]
theorem FR_neg {q : Rat} {s a e : Int} (h : FR q s = (a, e)) : FR (-q) s = (-a, e) := by
  unfold FR at h ⊢
  by_cases hs : 0 ≤ s ∧ s ≤ 62
  · rw [if_pos hs] at h ⊢
    rw [show -q * tw s.toNat = -(q * tw s.toNat) by grind, RV_neg]
    unfold RV at h
    split at h
    · next hn => injection h with h1 h2; subst h1 h2; rw [if_pos hn]; rfl
    · next hn => injection h with h1 h2; subst h1 h2; rw [if_neg hn]
  · rw [if_neg hs] at h ⊢
    injection h with h1 h2; subst h1 h2; rfl
theorem FR_ok {q : Rat} {s a : Int} (h : FR q s = (a, 0)) : ∃ n : Nat, s = (n : Int) ∧ n ≤ 62 ∧ a = rI (q * tw n) ∧ rN (q * tw n) ≤ 4611686018427387904 := by
  unfold FR at h
  by_cases hs : 0 ≤ s ∧ s ≤ 62
  · rw [if_pos hs] at h
    unfold RV at h
    split at h
    · injection h with h1 h2; cases h2
    · next hn => injection h with h1 h2; exact ⟨s.toNat, by omega, by omega, h1.symm, by omega⟩
  · rw [if_neg hs] at h
    injection h with h1 h2; cases h2
theorem rI_bd {q : Rat} (h : rN q ≤ 4611686018427387904) : -4611686018427387904 ≤ rI q ∧ rI q ≤ 4611686018427387904 := by
  have := rN_nn q
  rcases rI_abs q with e | e <;> omega
theorem FixedOrder_all (bx : Bool) (sx : Option Addr) (nx cx : Nat) (tx : Option Addr) (mx ex : Nat) (bu : Bool) (su : Option Addr) (nu cu : Nat) (tu : Option Addr) (mu eu : Nat) (s : Int) (w : World) (rx : Row w (.slice sx nx cx) nx) (ux : Row w (.slice tx mx ex) mx) (ru : Row w (.slice su nu cu) nu) (uu : Row w (.slice tu mu eu) mu) (h3 : (Lit.int .i64 s).wf = true) : Calls Try.prog 4 #[.agg #[.bool bx, .slice sx nx cx, .slice tx mx ex], .agg #[.bool bu, .slice su nu cu, .slice tu mu eu], .int .i64 s] w (Ret w (Val (.bool true))) := by
  obtain ⟨B, h1, h2⟩ := sv_of (b := bx) rx ux
  obtain ⟨C, k1, k2⟩ := sv_of (b := bu) ru uu
  cases B
  · exact lord_n1 h1
  · cases C
    · exact lord_n2 h1 k1
    · obtain ⟨q, hq⟩ := h2 rfl
      obtain ⟨r, hr⟩ := k2 rfl
      obtain ⟨a, e, hf⟩ : ∃ a e, FR q s = (a, e) := ⟨_, _, rfl⟩
      obtain ⟨c, f, hg⟩ : ∃ a e, FR r s = (a, e) := ⟨_, _, rfl⟩
      have hk := FR_neg hf
      by_cases he : e = 0
      · subst he
        by_cases hf0 : f = 0
        · subst hf0
          obtain ⟨n, rfl, hn, ha, hb1⟩ := FR_ok hf
          obtain ⟨n', hnn, hn', hc, hb2⟩ := FR_ok hg
          obtain rfl : n = n' := by omega
          have hb := rI_bd hb1
          rw [← ha] at hb
          have w1 : IntKind.i64.wrap (-a) = -a := IntWalk.i64_in _ (by omega)
          have w2 : wrap64 (-a) = -a := wrap64_id (by omega) (by omega)
          by_cases hm : 0 < cmpQ q r
          · exact lord_g w1 w2 _ rfl (decide_eq_true hm) hf hg hk h1 k1 hq hr
          · refine lord_l w1 w2 _ rfl (decide_eq_false hm) (decide_eq_true ?_) hf hg hk h1 k1 hq hr
            rw [ha, hc]
            have hle : q ≤ r := cmpQ_le.1 (by omega)
            exact rI_mono (Rat.mul_le_mul_of_nonneg_right hle (tw_nn n))
        · exact lord_f (bne_iff_ne.2 hf0) hf hg hk h1 k1 hq hr
      · exact lord_e (bne_iff_ne.2 he) hf hg hk h1 k1 hq hr
theorem near_le {q : Rat} {n : Nat} {a : Int} (ha : a = rI (q * tw n)) : qabs (q - (a : Rat) / tw n) ≤ 1 / 2 * (1 / tw n) := by
  have h := rI_near (q * tw n)
  rw [← ha] at h
  have hp := tw_pos n
  have hT := tw_ne n
  generalize tw n = T at *
  have hi : 0 < T⁻¹ := inv_pos' hp
  have hm : T * T⁻¹ = 1 := Rat.mul_inv_cancel _ hT
  have e1 : (a : Rat) / T = (a : Rat) * T⁻¹ := Rat.div_def _ _
  have e2 : (1 : Rat) / T = T⁻¹ := by rw [Rat.div_def, Rat.one_mul]
  rw [e1, e2]
  have k1 := Rat.mul_le_mul_of_nonneg_right h.1 (Rat.le_of_lt hi)
  have k2 := Rat.mul_le_mul_of_nonneg_right h.2 (Rat.le_of_lt hi)
  have e3 : q * T * T⁻¹ = q := by rw [Rat.mul_assoc, hm, Rat.mul_one]
  rw [e3] at k1 k2
  unfold qabs
  split <;> grind
theorem FixedRoundIsNearest_all (bx : Bool) (sx : Option Addr) (nx cx : Nat) (tx : Option Addr) (mx ex : Nat) (s : Int) (w : World) (rx : Row w (.slice sx nx cx) nx) (ux : Row w (.slice tx mx ex) mx) (h3 : (Lit.int .i64 s).wf = true) : Calls Try.prog 8 #[.agg #[.bool bx, .slice sx nx cx, .slice tx mx ex], .int .i64 s] w (Ret w (Val (.bool true))) := by
  obtain ⟨B, h1, h2⟩ := sv_of (b := bx) rx ux
  cases B
  · exact lnear_n h1
  · obtain ⟨q, hq⟩ := h2 rfl
    obtain ⟨a, e, hf⟩ : ∃ a e, FR q s = (a, e) := ⟨_, _, rfl⟩
    by_cases he : e = 0
    · subst he
      obtain ⟨n, rfl, hn, ha, hb1⟩ := FR_ok hf
      have hb := rI_bd hb1
      rw [← ha] at hb
      refine lnear_y hf hn (by omega) (by omega) _ rfl (decide_eq_true (cmpQ_le.2 ?_)) h1 hq
      rw [rv_false (decide (q - (a : Rat) / tw n < 0)), rv_self, half_eq]
      exact near_le ha
    · exact lnear_e (bne_iff_ne.2 he) hf h1 hq
theorem FixedRat_all (x s : Int) (w : World) (h1 : (Lit.int .i64 x).wf = true) (h2 : (Lit.int .i64 s).wf = true) : Calls Try.prog 9 #[.int .i64 x, .int .i64 s] w (Ret w (Val (.bool true))) := by
  obtain ⟨a1, a2⟩ := wf_i64 h1
  by_cases hs : 0 ≤ s ∧ s ≤ 62
  · obtain ⟨n, rfl⟩ := Int.eq_ofNat_of_zero_le hs.1
    have hn : n ≤ 62 := by omega
    by_cases hg : 4611686018427387904 < x
    · exact lrat_g hn a1 a2 (decide_eq_true hg)
    · by_cases hl : x < -4611686018427387904
      · exact lrat_l hn a1 a2 (decide_eq_false hg) (decide_eq_true hl)
      · refine lrat_y hn a1 a2 (decide_eq_false hg) (decide_eq_false hl) ?_
        rw [FR_in hn, Rat.div_mul_cancel (tw_ne n), RV_ok (by rw [rN_int]; omega), rI_int]
  · exact lrat_n (decide_eq_false hs)

end Go.Proofs.Ytfffehmkohcgcaa
