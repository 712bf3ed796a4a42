/- The integer layer: Mul, and Add of numbers of one sign, of both packages. Printed by ints.py. -/
import Derived.Test.YtfkjhaniglmejaaIntB
import Derived.Deep.RegionHeld3
namespace Go.Proofs.Ytfkjhaniglmejaa
open Go.RowKit Nt
theorem iv_mul (na nb : Bool) (ma mb : Nat) : iv (!na == nb) (ma * mb) = iv na ma * iv nb mb := by
  cases na <;> cases nb <;> simp [iv, Int.natCast_mul, Int.neg_mul, Int.mul_neg]
theorem iv_add (na : Bool) (ma mb : Nat) : iv na (ma + mb) = iv na ma + iv na mb := by
  cases na <;> simp [iv] <;> omega

set_option maxRecDepth 100000 in
theorem imul_bx {L M : Nat} {ma mb : Nat} {sa sb : Value} {w : World} {na nb : Bool} (h : Is ma L w sa) (h' : Is mb M w sb) (hL : L ≤ 4294967296) (hM : M ≤ 4294967296) :
    Calls Try.prog 81 #[.agg #[.bool na, sa], .agg #[.bool nb, sb]] w (Ret w (CL (iv na ma * iv nb mb) (L + M))) := by
  have H := Lib.hid h
  have H' := Lib.hid h'
  clear h h'
  go_enter Try.func81, Try.ntmps81
  go_wp2_with fail
  obtain ⟨W3, hW3⟩ : ∃ W3, W3 = (((w.alloc (.cells #[.bool na, sa] 33)).alloc (.cells #[.bool nb, sb] 33)).alloc (.cells #[.bool false, .slice none 0 0] 33)) := ⟨_, rfl⟩
  have hBW : Below w.heap.size w W3.drew := by rw [hW3]; exact ((((Below.refl _ _).alloc (Nat.le_refl _) _).alloc (by simp) _).alloc (by simp; omega) _).drew
  have A3 := Lib.hid (H.out.below hBW)
  have B3 := Lib.hid (H'.out.below hBW)
  have HBW := Lib.hid hBW
  clear hBW
  subst hW3
  go_region_held3 (fun w' => w'.cell? ⟨w.heap.size, 0, none⟩ = some (.bool na) ∧ w'.cell? ⟨w.heap.size, 1, none⟩ = some sa ∧ w'.cell? ⟨w.heap.size + 1, 0, none⟩ = some (.bool nb) ∧ w'.cell? ⟨w.heap.size + 1, 1, none⟩ = some sb)
    (first | exact boxes2s (boxes2 (hb1.trans (hb2.mono hb1.size))) | exact boxes2 (hb1.trans (hb2.mono hb1.size)) | exact boxes2 hb1 | go_keep)
    (first | (go_at_call 58; refine (mul_is A3.out B3.out hL hM).mono ?_; rintro e w1 ⟨v1, rfl, h1, hb1⟩)
           | (go_at_call 82; refine (imake_ai h1.is).mono ?_; rintro e w2 ⟨v2, rfl, ⟨⟨s2, rfl, h2⟩, hs2⟩, hb2⟩; obtain ⟨ad, n, cap, rfl⟩ := h2.lit; obtain ⟨c0, c1, f0, f1⟩ := box_kept (((Below.refl _ _).drew).trans (hb1.trans (hb2.mono hb1.size))); rw [World.size_alloc, World.size_alloc] at c0 c1 f0 f1))
  obtain ⟨k0, k1⟩ := box_set (x' := .bool (decide (iv (!na == nb) (ma * mb) < 0))) (y' := .slice ad n cap) c0 c1
  go_wp2
  refine bodyPost_ret (ret_int rfl _ _ (w.heap.size + 1 + 1) _ _ rfl k0 k1) rfl ?_
  rw [← iv_mul]
  exact ⟨_, rfl, ⟨⟨_, rfl, Sl.box h2 c0 c1⟩, hs2⟩, below_box (HBW.out.trans ((hb1.trans (hb2.mono hb1.size)).mono HBW.out.size)) (by omega)⟩


set_option maxRecDepth 100000 in
theorem iadd_bx_false {L M : Nat} {ma mb : Nat} {sa sb : Value} {w : World}  (h : Is ma L w sa) (h' : Is mb M w sb) (hL : L ≤ 4294967296) (hM : M ≤ 4294967296) :
    Calls Try.prog 56 #[.agg #[.bool false, sa], .agg #[.bool false, sb]] w (Ret w (CL (iv false ma + iv false mb) (max L M + 1))) := by
  have H := Lib.hid h
  have H' := Lib.hid h'
  clear h h'
  go_enter Try.func56, Try.ntmps56
  go_wp2_with fail
  obtain ⟨W3, hW3⟩ : ∃ W3, W3 = (((w.alloc (.cells #[.bool false, sa] 33)).alloc (.cells #[.bool false, sb] 33)).alloc (.cells #[.bool false, .slice none 0 0] 33)) := ⟨_, rfl⟩
  have hBW : Below w.heap.size w W3.drew := by rw [hW3]; exact ((((Below.refl _ _).alloc (Nat.le_refl _) _).alloc (by simp) _).alloc (by simp; omega) _).drew
  have A3 := Lib.hid (H.out.below hBW)
  have B3 := Lib.hid (H'.out.below hBW)
  have HBW := Lib.hid hBW
  clear hBW
  subst hW3
  go_region_held3 (fun w' => w'.cell? ⟨w.heap.size, 0, none⟩ = some (.bool false) ∧ w'.cell? ⟨w.heap.size, 1, none⟩ = some sa ∧ w'.cell? ⟨w.heap.size + 1, 0, none⟩ = some (.bool false) ∧ w'.cell? ⟨w.heap.size + 1, 1, none⟩ = some sb)
    (first | exact boxes2s (boxes2 (hb1.trans (hb2.mono hb1.size))) | exact boxes2 (hb1.trans (hb2.mono hb1.size)) | exact boxes2 hb1 | go_keep)
    (first | (go_at_call 83; refine (add_is A3.out B3.out hL hM).mono ?_; rintro e w1 ⟨v1, rfl, h1, hb1⟩)
           | (go_at_call 82; refine (imake_ai h1.is).mono ?_; rintro e w2 ⟨v2, rfl, ⟨⟨s2, rfl, h2⟩, hs2⟩, hb2⟩; obtain ⟨ad, n, cap, rfl⟩ := h2.lit; obtain ⟨c0, c1, f0, f1⟩ := box_kept (((Below.refl _ _).drew).trans (hb1.trans (hb2.mono hb1.size))); rw [World.size_alloc, World.size_alloc] at c0 c1 f0 f1))
  obtain ⟨k0, k1⟩ := box_set (x' := .bool (decide (iv false (ma + mb) < 0))) (y' := .slice ad n cap) c0 c1
  go_wp2
  refine bodyPost_ret (ret_int rfl _ _ (w.heap.size + 1 + 1) _ _ rfl k0 k1) rfl ?_
  rw [← iv_add]
  exact ⟨_, rfl, ⟨⟨_, rfl, Sl.box h2 c0 c1⟩, hs2⟩, below_box (HBW.out.trans ((hb1.trans (hb2.mono hb1.size)).mono HBW.out.size)) (by omega)⟩


set_option maxRecDepth 100000 in
theorem iadd_bx_true {L M : Nat} {ma mb : Nat} {sa sb : Value} {w : World}  (h : Is ma L w sa) (h' : Is mb M w sb) (hL : L ≤ 4294967296) (hM : M ≤ 4294967296) :
    Calls Try.prog 56 #[.agg #[.bool true, sa], .agg #[.bool true, sb]] w (Ret w (CL (iv true ma + iv true mb) (max L M + 1))) := by
  have H := Lib.hid h
  have H' := Lib.hid h'
  clear h h'
  go_enter Try.func56, Try.ntmps56
  go_wp2_with fail
  obtain ⟨W3, hW3⟩ : ∃ W3, W3 = (((w.alloc (.cells #[.bool true, sa] 33)).alloc (.cells #[.bool true, sb] 33)).alloc (.cells #[.bool false, .slice none 0 0] 33)) := ⟨_, rfl⟩
  have hBW : Below w.heap.size w W3.drew := by rw [hW3]; exact ((((Below.refl _ _).alloc (Nat.le_refl _) _).alloc (by simp) _).alloc (by simp; omega) _).drew
  have A3 := Lib.hid (H.out.below hBW)
  have B3 := Lib.hid (H'.out.below hBW)
  have HBW := Lib.hid hBW
  clear hBW
  subst hW3
  go_region_held3 (fun w' => w'.cell? ⟨w.heap.size, 0, none⟩ = some (.bool true) ∧ w'.cell? ⟨w.heap.size, 1, none⟩ = some sa ∧ w'.cell? ⟨w.heap.size + 1, 0, none⟩ = some (.bool true) ∧ w'.cell? ⟨w.heap.size + 1, 1, none⟩ = some sb)
    (first | exact boxes2s (boxes2 (hb1.trans (hb2.mono hb1.size))) | exact boxes2 (hb1.trans (hb2.mono hb1.size)) | exact boxes2 hb1 | go_keep)
    (first | (go_at_call 83; refine (add_is A3.out B3.out hL hM).mono ?_; rintro e w1 ⟨v1, rfl, h1, hb1⟩)
           | (go_at_call 82; refine (imake_ai h1.is).mono ?_; rintro e w2 ⟨v2, rfl, ⟨⟨s2, rfl, h2⟩, hs2⟩, hb2⟩; obtain ⟨ad, n, cap, rfl⟩ := h2.lit; obtain ⟨c0, c1, f0, f1⟩ := box_kept (((Below.refl _ _).drew).trans (hb1.trans (hb2.mono hb1.size))); rw [World.size_alloc, World.size_alloc] at c0 c1 f0 f1))
  obtain ⟨k0, k1⟩ := box_set (x' := .bool (decide (iv true (ma + mb) < 0))) (y' := .slice ad n cap) c0 c1
  go_wp2
  refine bodyPost_ret (ret_int rfl _ _ (w.heap.size + 1 + 1) _ _ rfl k0 k1) rfl ?_
  rw [← iv_add]
  exact ⟨_, rfl, ⟨⟨_, rfl, Sl.box h2 c0 c1⟩, hs2⟩, below_box (HBW.out.trans ((hb1.trans (hb2.mono hb1.size)).mono HBW.out.size)) (by omega)⟩


theorem imul_ai {y z : Int} {L M : Nat} {u v : Value} {w : World} (h : AI y L w u) (h' : AI z M w v) (hL : L ≤ 4294967296) (hM : M ≤ 4294967296) :
    Calls Try.prog 81 #[u, v] w (Ret w (CL (y * z) (L + M))) := by
  obtain ⟨na, sa, ma, rfl, h, rfl⟩ := h
  obtain ⟨nb, sb, mb, rfl, h', rfl⟩ := h'
  exact imul_bx h h' hL hM

set_option maxRecDepth 100000 in
theorem riadd_bx_false {L M : Nat} {ma mb : Nat} {sa sb : Value} {w : World}  (h : Is ma L w sa) (h' : Is mb M w sb) (hL : L ≤ 4294967296) (hM : M ≤ 4294967296) :
    Calls Try.prog 62 #[.agg #[.bool false, sa], .agg #[.bool false, sb]] w (Ret w (CL (iv false ma + iv false mb) (max L M + 1))) := by
  have H := Lib.hid h
  have H' := Lib.hid h'
  clear h h'
  go_enter Try.func62, Try.ntmps62
  go_wp2_with fail
  obtain ⟨W3, hW3⟩ : ∃ W3, W3 = (((w.alloc (.cells #[.bool false, sa] 33)).alloc (.cells #[.bool false, sb] 33)).alloc (.cells #[.bool false, .slice none 0 0] 33)) := ⟨_, rfl⟩
  have hBW : Below w.heap.size w W3.drew := by rw [hW3]; exact ((((Below.refl _ _).alloc (Nat.le_refl _) _).alloc (by simp) _).alloc (by simp; omega) _).drew
  have A3 := Lib.hid (H.out.below hBW)
  have B3 := Lib.hid (H'.out.below hBW)
  have HBW := Lib.hid hBW
  clear hBW
  subst hW3
  go_region_held3 (fun w' => w'.cell? ⟨w.heap.size, 0, none⟩ = some (.bool false) ∧ w'.cell? ⟨w.heap.size, 1, none⟩ = some sa ∧ w'.cell? ⟨w.heap.size + 1, 0, none⟩ = some (.bool false) ∧ w'.cell? ⟨w.heap.size + 1, 1, none⟩ = some sb)
    (first | exact boxes2s (boxes2 (hb1.trans (hb2.mono hb1.size))) | exact boxes2 (hb1.trans (hb2.mono hb1.size)) | exact boxes2 hb1 | go_keep)
    (first | (go_at_call 92; refine (radd_is A3.out B3.out hL hM).mono ?_; rintro e w1 ⟨v1, rfl, h1, hb1⟩)
           | (go_at_call 79; refine (rimake_ai h1.is).mono ?_; rintro e w2 ⟨v2, rfl, ⟨⟨s2, rfl, h2⟩, hs2⟩, hb2⟩; obtain ⟨ad, n, cap, rfl⟩ := h2.lit; obtain ⟨c0, c1, f0, f1⟩ := box_kept (((Below.refl _ _).drew).trans (hb1.trans (hb2.mono hb1.size))); rw [World.size_alloc, World.size_alloc] at c0 c1 f0 f1))
  obtain ⟨k0, k1⟩ := box_set (x' := .bool (decide (iv false (ma + mb) < 0))) (y' := .slice ad n cap) c0 c1
  go_wp2
  refine bodyPost_ret (ret_int rfl _ _ (w.heap.size + 1 + 1) _ _ rfl k0 k1) rfl ?_
  rw [← iv_add]
  exact ⟨_, rfl, ⟨⟨_, rfl, Sl.box h2 c0 c1⟩, hs2⟩, below_box (HBW.out.trans ((hb1.trans (hb2.mono hb1.size)).mono HBW.out.size)) (by omega)⟩


set_option maxRecDepth 100000 in
theorem riadd_bx_true {L M : Nat} {ma mb : Nat} {sa sb : Value} {w : World}  (h : Is ma L w sa) (h' : Is mb M w sb) (hL : L ≤ 4294967296) (hM : M ≤ 4294967296) :
    Calls Try.prog 62 #[.agg #[.bool true, sa], .agg #[.bool true, sb]] w (Ret w (CL (iv true ma + iv true mb) (max L M + 1))) := by
  have H := Lib.hid h
  have H' := Lib.hid h'
  clear h h'
  go_enter Try.func62, Try.ntmps62
  go_wp2_with fail
  obtain ⟨W3, hW3⟩ : ∃ W3, W3 = (((w.alloc (.cells #[.bool true, sa] 33)).alloc (.cells #[.bool true, sb] 33)).alloc (.cells #[.bool false, .slice none 0 0] 33)) := ⟨_, rfl⟩
  have hBW : Below w.heap.size w W3.drew := by rw [hW3]; exact ((((Below.refl _ _).alloc (Nat.le_refl _) _).alloc (by simp) _).alloc (by simp; omega) _).drew
  have A3 := Lib.hid (H.out.below hBW)
  have B3 := Lib.hid (H'.out.below hBW)
  have HBW := Lib.hid hBW
  clear hBW
  subst hW3
  go_region_held3 (fun w' => w'.cell? ⟨w.heap.size, 0, none⟩ = some (.bool true) ∧ w'.cell? ⟨w.heap.size, 1, none⟩ = some sa ∧ w'.cell? ⟨w.heap.size + 1, 0, none⟩ = some (.bool true) ∧ w'.cell? ⟨w.heap.size + 1, 1, none⟩ = some sb)
    (first | exact boxes2s (boxes2 (hb1.trans (hb2.mono hb1.size))) | exact boxes2 (hb1.trans (hb2.mono hb1.size)) | exact boxes2 hb1 | go_keep)
    (first | (go_at_call 92; refine (radd_is A3.out B3.out hL hM).mono ?_; rintro e w1 ⟨v1, rfl, h1, hb1⟩)
           | (go_at_call 79; refine (rimake_ai h1.is).mono ?_; rintro e w2 ⟨v2, rfl, ⟨⟨s2, rfl, h2⟩, hs2⟩, hb2⟩; obtain ⟨ad, n, cap, rfl⟩ := h2.lit; obtain ⟨c0, c1, f0, f1⟩ := box_kept (((Below.refl _ _).drew).trans (hb1.trans (hb2.mono hb1.size))); rw [World.size_alloc, World.size_alloc] at c0 c1 f0 f1))
  obtain ⟨k0, k1⟩ := box_set (x' := .bool (decide (iv true (ma + mb) < 0))) (y' := .slice ad n cap) c0 c1
  go_wp2
  refine bodyPost_ret (ret_int rfl _ _ (w.heap.size + 1 + 1) _ _ rfl k0 k1) rfl ?_
  rw [← iv_add]
  exact ⟨_, rfl, ⟨⟨_, rfl, Sl.box h2 c0 c1⟩, hs2⟩, below_box (HBW.out.trans ((hb1.trans (hb2.mono hb1.size)).mono HBW.out.size)) (by omega)⟩


end Go.Proofs.Ytfkjhaniglmejaa
