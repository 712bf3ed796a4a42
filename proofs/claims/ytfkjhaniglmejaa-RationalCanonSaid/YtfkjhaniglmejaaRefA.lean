/- Walks over the reference of package natural, second part: Cmp, Add, Sub. -/
import Derived.Test.YtfkjhaniglmejaaNatL
namespace Go.Proofs.Ytfkjhaniglmejaa
open Go.RowKit Nt

set_option maxHeartbeats 1000000 in
theorem rcmp_any (v v' : Value) (xs ys : List Nat) (w : World) (h : Sl w v xs) (h' : Sl w v' ys) :
    Calls Try.prog 28 #[v, v'] w (Ret w (Val (.int .i64 (cmpN (val xs) (val ys))))) := by
  have hxl := h.len
  have hyl := h'.len
  have Hx := Lib.hid h.lims
  have Hy := Lib.hid h'.lims
  have H := Lib.hid h
  have H' := Lib.hid h'
  obtain ⟨ad, n, cap, rfl, hn, -⟩ := h
  obtain ⟨ad', n', cap', rfl, hn', -⟩ := h'
  have hb : n ≤ 1099511627776 := by omega
  have hb' : n' ≤ 1099511627776 := by omega
  have Hn := Lib.hid hn
  have Hn' := Lib.hid hn'
  obtain ⟨m, hm⟩ : ∃ m : Nat, m = max n n' := ⟨_, rfl⟩
  have Hm : Hid (xs.length ≤ m ∧ ys.length ≤ m) := Lib.hid (by omega)
  have hmb : m ≤ 1099511627776 := by omega
  have hmax : max (n : Int) (n' : Int) = (m : Int) := by omega
  clear hn hn' hxl hyl hm
  go_enter Try.func28, Try.ntmps28
  go_wp2_with fail
  go_loop [5] (fun i => ∃ k : Nat, k ≤ m ∧ i = .int .i64 ((k : Int) - 1) ∧ Hid (agree xs ys k)) (fun i => (intOf i + 1).toNat)
  case atStart => exact ⟨m, Nat.le_refl _, rfl, Lib.hid (agree_top Hm.out.1 Hm.out.2)⟩
  case round =>
    obtain ⟨k, hk, rfl, Hs⟩ := hrel
    rcases Nat.eq_zero_or_pos k with hk0 | hk0
    · subst hk0
      have HF : Hid (cmpN (val xs) (val ys) = 0) := Lib.hid (cmpN_eq (agree_zero Hs.out))
      go_wp2
      go_ret
      refine ⟨_, rfl, ?_, Below.refl _ _⟩
      show Value.int _ _ = Value.int _ _
      rw [HF.out]
    · obtain ⟨j, rfl⟩ : ∃ j, k = j + 1 := ⟨k - 1, by omega⟩
      rw [show ((j + 1 : Nat) : Int) - 1 = (j : Int) from by omega]
      obtain ⟨x, hx⟩ : ∃ x, x = xs.getD j 0 := ⟨_, rfl⟩
      obtain ⟨y, hy⟩ : ∃ y, y = ys.getD j 0 := ⟨_, rfl⟩
      have L1 := Lib.hid (limb_any _ xs j w H.out (by omega))
      have L2 := Lib.hid (limb_any _ ys j w H'.out (by omega))
      rw [← hx] at L1
      rw [← hy] at L2
      have Hx' := Lib.hid hx; clear hx
      have Hy' := Lib.hid hy; clear hy
      rcases Nat.lt_trichotomy x y with hlt | heq | hgt
      · have HF : Hid (cmpN (val xs) (val ys) = -1) := Lib.hid (cmpN_lt (agree_lt Hs.out Hx.out (by rw [← Hx'.out, ← Hy'.out]; exact hlt)))
        go_wp2_with fail
        refine L1.out.mono ?_
        rintro e w' ⟨rfl, rfl⟩
        go_wp2_with fail
        refine L2.out.mono ?_
        rintro e w' ⟨rfl, rfl⟩
        go_wp2
        go_ret
        refine ⟨_, rfl, ?_, Below.refl _ _⟩
        show Value.int _ _ = Value.int _ _
        rw [HF.out]
      · subst heq
        have HA := Lib.hid (agree_step Hs.out (by rw [← Hx'.out, ← Hy'.out]))
        go_wp2_with fail
        refine L1.out.mono ?_
        rintro e w' ⟨rfl, rfl⟩
        go_wp2_with fail
        refine L2.out.mono ?_
        rintro e w' ⟨rfl, rfl⟩
        go_wp2_with fail
        refine L1.out.mono ?_
        rintro e w' ⟨rfl, rfl⟩
        go_wp2_with fail
        refine L2.out.mono ?_
        rintro e w' ⟨rfl, rfl⟩
        go_wp2
        go_round
        case rel => exact ⟨j, by omega, by go_num, HA⟩
        case measure => simp [intOf] <;> omega
      · have HF : Hid (cmpN (val xs) (val ys) = 1) := Lib.hid (cmpN_gt (agree_gt Hs.out Hy.out (by rw [← Hx'.out, ← Hy'.out]; exact hgt)))
        go_wp2_with fail
        refine L1.out.mono ?_
        rintro e w' ⟨rfl, rfl⟩
        go_wp2_with fail
        refine L2.out.mono ?_
        rintro e w' ⟨rfl, rfl⟩
        go_wp2_with fail
        refine L1.out.mono ?_
        rintro e w' ⟨rfl, rfl⟩
        go_wp2_with fail
        refine L2.out.mono ?_
        rintro e w' ⟨rfl, rfl⟩
        go_wp2
        go_ret
        refine ⟨_, rfl, ?_, Below.refl _ _⟩
        show Value.int _ _ = Value.int _ _
        rw [HF.out]

/-- The reference's sum behind k rounds. -/
def raddInv (k c : Nat) (os xs ys : List Nat) : Prop := os.length = k ∧ lims os ∧ c ≤ 1 ∧ val os + 4294967296 ^ k * c = val (xs.take k) + val (ys.take k)
theorem raddInv_zero (xs ys : List Nat) : raddInv 0 0 [] xs ys := ⟨rfl, lims_nil, by decide, by simp [val]⟩
theorem raddInv_step {k c : Nat} {os xs ys : List Nat} (h : raddInv k c os xs ys) (hx : lims xs) (hy : lims ys) (z : Int) (hz : z = (c : Int) + ((xs.getD k 0 : Nat) + (ys.getD k 0 : Nat))) :
    raddInv (k + 1) (z / 4294967296).toNat (os ++ [(z % 4294967296).toNat]) xs ys := by
  obtain ⟨h1, h2, h3, h4⟩ := h
  have b1 := lims_getD hx k
  have b2 := lims_getD hy k
  refine ⟨by simp [h1], lims_append h2 (lims_cons (by omega) lims_nil), by omega, ?_⟩
  rw [val_snoc, h1, val_take_step xs, val_take_step ys, Nat.pow_succ]
  have := add_step (o := val os) (x := val (xs.take k) + val (ys.take k)) (y := xs.getD k 0 + ys.getD k 0) (p := 4294967296 ^ k) (c := c) (d := (z % 4294967296).toNat) (o' := (z / 4294967296).toNat) h4 (by omega)
  rw [this, Nat.mul_add]; omega
theorem raddInv_end {k c : Nat} {os xs ys : List Nat} (h : raddInv k c os xs ys) (hx : xs.length ≤ k) (hy : ys.length ≤ k) : lims (os ++ [c]) ∧ (os ++ [c]).length = k + 1 ∧ val (os ++ [c]) = val xs + val ys := by
  obtain ⟨h1, h2, h3, h4⟩ := h
  refine ⟨lims_append h2 (lims_cons (by omega) lims_nil), by simp [h1], ?_⟩
  rw [val_snoc, h1, h4, val_take_ge hx, val_take_ge hy]

set_option maxHeartbeats 1000000 in
theorem radd_any (v v' : Value) (xs ys : List Nat) (w : World) (h : Sl w v xs) (h' : Sl w v' ys) (hxl : xs.length ≤ 4294967296) (hyl : ys.length ≤ 4294967296) :
    Calls Try.prog 92 #[v, v'] w (Ret w (Num (val xs + val ys))) := by
  have Hx := Lib.hid h.lims
  have Hy := Lib.hid h'.lims
  have H := Lib.hid h
  have H' := Lib.hid h'
  obtain ⟨ad, n, cap, rfl, hn, -⟩ := h
  obtain ⟨ad', n', cap', rfl, hn', -⟩ := h'
  have hb : n ≤ 4294967296 := by omega
  have hb' : n' ≤ 4294967296 := by omega
  have Hn := Lib.hid hn
  have Hn' := Lib.hid hn'
  clear hn hn' hxl hyl
  go_enter Try.func92, Try.ntmps92
  go_wp2_with fail
  go_loopw [5, 6, 7] (fun o cy i wr => ∃ (k c : Nat) (os : List Nat), k ≤ 4294967296 ∧ i = .int .i64 (k : Int) ∧ cy = .int .u64 (c : Int) ∧ Hid (OwnU wr w.heap.size 64 o os) ∧ Hid (raddInv k c os xs ys) ∧ Hid (Below w.heap.size w wr)) (fun _ _ i _ => 4294967296 - (intOf i).toNat)
  case atStart => exact ⟨0, 0, [], by omega, rfl, rfl, Lib.hid (OwnU.nil _ _ _), Lib.hid (raddInv_zero _ _), Lib.hid (Below.refl _ _)⟩
  case round =>
    obtain ⟨k, c, os, hk, rfl, rfl, HO, Hs, Hbl⟩ := hrel
    have hc1 := Hs.out.2.2.1
    obtain ⟨x, hx⟩ : ∃ x, x = xs.getD k 0 := ⟨_, rfl⟩
    obtain ⟨y, hy⟩ : ∃ y, y = ys.getD k 0 := ⟨_, rfl⟩
    have bx := lims_getD Hx.out k
    have by' := lims_getD Hy.out k
    have L1 := Lib.hid (limb_any _ xs k _ (H.out.below Hbl.out) (by omega))
    have L2 := Lib.hid (limb_any _ ys k _ (H'.out.below Hbl.out) (by omega))
    rw [← hx] at L1 bx
    rw [← hy] at L2 by'
    have Hx' := Lib.hid hx; clear hx
    have Hy' := Lib.hid hy; clear hy
    have Hosl : Hid (os.length ≤ 1099511627776) := Lib.hid (by have := Hs.out.1; omega)
    by_cases hkn : k < n ∨ k < n'
    · have hk4 : k < 4294967296 := by omega
      by_cases hkn1 : k < n
      · clear hkn
        go_wp2_with fail
        refine L1.out.mono ?_
        rintro e w' ⟨rfl, rfl⟩
        go_wp2_with fail
        refine L2.out.mono ?_
        rintro e w' ⟨rfl, rfl⟩
        go_wp2_with (at_builtin; refine wpList_push_u32 _ rfl _ _ _ _ rfl 64 Try.underlying22 Try.underlying22 Try.infoU32 w.heap.size _ os rfl (HO.out.below ((Below.refl _ _).alloc (Nat.le_refl _) _) (Nat.le_refl _)) _ 1 (((c : Int) + ((x : Int) + (y : Int))) % 4294967296) rfl (by simp) (by omega) Hosl.out (by have := Hbl.out.size; simp; omega) ?_; intro v3 w3 h3 hb3)
        go_wp2
        go_roundw
        case rel =>
          exact ⟨k + 1, _, _, by omega, by go_num, congrArg (Value.int .u64) (Int.toNat_of_nonneg (by omega)).symm, Lib.hid h3, Lib.hid (raddInv_step Hs.out Hx.out Hy.out _ (by rw [← Hx'.out, ← Hy'.out])), Lib.hid ((Hbl.out.alloc Hbl.out.size _).trans hb3)⟩
        case measure => simp [intOf] <;> omega
      · have hkn2 : k < n' := by omega
        clear hkn
        go_wp2_with fail
        refine L1.out.mono ?_
        rintro e w' ⟨rfl, rfl⟩
        go_wp2_with fail
        refine L2.out.mono ?_
        rintro e w' ⟨rfl, rfl⟩
        go_wp2_with (at_builtin; refine wpList_push_u32 _ rfl _ _ _ _ rfl 64 Try.underlying22 Try.underlying22 Try.infoU32 w.heap.size _ os rfl (HO.out.below ((Below.refl _ _).alloc (Nat.le_refl _) _) (Nat.le_refl _)) _ 1 (((c : Int) + ((x : Int) + (y : Int))) % 4294967296) rfl (by simp) (by omega) Hosl.out (by have := Hbl.out.size; simp; omega) ?_; intro v3 w3 h3 hb3)
        go_wp2
        go_roundw
        case rel =>
          exact ⟨k + 1, _, _, by omega, by go_num, congrArg (Value.int .u64) (Int.toNat_of_nonneg (by omega)).symm, Lib.hid h3, Lib.hid (raddInv_step Hs.out Hx.out Hy.out _ (by rw [← Hx'.out, ← Hy'.out])), Lib.hid ((Hbl.out.alloc Hbl.out.size _).trans hb3)⟩
        case measure => simp [intOf] <;> omega
    · have hk1 : ¬ k < n := by omega
      have hk2 : ¬ k < n' := by omega
      have HE := Lib.hid (raddInv_end Hs.out (by have := Hn.out; omega) (by have := Hn'.out; omega))
      clear hkn L1 L2
      go_wp2_with (at_builtin; refine wpList_push_u32 _ rfl _ _ _ _ rfl 64 Try.underlying22 Try.underlying22 Try.infoU32 w.heap.size _ os rfl (HO.out.below ((Below.refl _ _).alloc (Nat.le_refl _) _) (Nat.le_refl _)) _ 1 ((c : Int)) rfl (by simp) (by omega) Hosl.out (by have := Hbl.out.size; simp; omega) ?_; intro v3 w3 h3 hb3)
      rw [Int.toNat_natCast] at h3
      have HB := Lib.hid ((Hbl.out.alloc Hbl.out.size _).trans hb3)
      clear hb3
      go_wp2_with fail
      refine (rmake_any _ _ _ (h3.sl HE.out.1 (by rw [HE.out.2.1]; omega))).mono ?_
      rintro e w4 ⟨v4, rfl, h4, hb4⟩
      rw [HE.out.2.2] at h4
      have HB2 := HB.out.trans (hb4.mono HB.out.size)
      clear hb4
      go_wp2
      go_ret
      exact ⟨_, rfl, h4, HB2⟩

end Go.Proofs.Ytfkjhaniglmejaa
