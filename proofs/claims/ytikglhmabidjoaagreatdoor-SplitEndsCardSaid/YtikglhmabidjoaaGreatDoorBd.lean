/- Texts RefA RefB RefC RefD NumG RefE RefF RefG, in this order. -/
import Derived.Test.YtikglhmabidjoaaGreatDoorBc
namespace Go.Proofs.YtikglhmabidjoaaGreatDoor
open Go.RowKit Nt
set_option maxHeartbeats 1000000 in
theorem rcmp_any (v v' : Value) (xs ys : List Nat) (w : World) (h : Sl w v xs) (h' : Sl w v' ys) :
    Calls Tryz.prog 183 #[v, v'] w (Ret w (Val (.int .i64 (cmpN (val xs) (val ys))))) := by
  have hxl := h.len
  have hyl := h'.len
  have Hx := Lib.hid h.lims
  have Hy := Lib.hid h'.lims
  have H := Lib.hid h
  have H' := Lib.hid h'
  obtain ⟨ad, n, cap, rfl, hn, -⟩ := h
  obtain ⟨ad', n', cap', rfl, hn', -⟩ := h'
  have hb : n ≤ 1099511627776 := by omega
  have hb' : n' ≤ 1099511627776 := by omega
  have Hn := Lib.hid hn
  have Hn' := Lib.hid hn'
  obtain ⟨m, hm⟩ : ∃ m : Nat, m = max n n' := ⟨_, rfl⟩
  have Hm : Hid (xs.length ≤ m ∧ ys.length ≤ m) := Lib.hid (by omega)
  have hmb : m ≤ 1099511627776 := by omega
  have hmax : max (n : Int) (n' : Int) = (m : Int) := by omega
  clear hn hn' hxl hyl hm
  go_enter Tryz.func183, Tryz.ntmps183
  go_wp2_with fail
  go_loop [5] (fun i => ∃ k : Nat, k ≤ m ∧ i = .int .i64 ((k : Int) - 1) ∧ Hid (agree xs ys k)) (fun i => (intOf i + 1).toNat)
  case atStart => exact ⟨m, Nat.le_refl _, rfl, Lib.hid (agree_top Hm.out.1 Hm.out.2)⟩
  case round =>
    obtain ⟨k, hk, rfl, Hs⟩ := hrel
    rcases Nat.eq_zero_or_pos k with hk0 | hk0
    · subst hk0
      have HF : Hid (cmpN (val xs) (val ys) = 0) := Lib.hid (cmpN_eq (agree_zero Hs.out))
      go_wp2
      go_ret
      refine ⟨_, rfl, ?_, Below.refl _ _⟩
      show Value.int _ _ = Value.int _ _
      rw [HF.out]
    · obtain ⟨j, rfl⟩ : ∃ j, k = j + 1 := ⟨k - 1, by omega⟩
      rw [show ((j + 1 : Nat) : Int) - 1 = (j : Int) from by omega]
      obtain ⟨x, hx⟩ : ∃ x, x = xs.getD j 0 := ⟨_, rfl⟩
      obtain ⟨y, hy⟩ : ∃ y, y = ys.getD j 0 := ⟨_, rfl⟩
      have L1 := Lib.hid (limb_any _ xs j w H.out (by omega))
      have L2 := Lib.hid (limb_any _ ys j w H'.out (by omega))
      rw [← hx] at L1
      rw [← hy] at L2
      have Hx' := Lib.hid hx; clear hx
      have Hy' := Lib.hid hy; clear hy
      rcases Nat.lt_trichotomy x y with hlt | heq | hgt
      · have HF : Hid (cmpN (val xs) (val ys) = -1) := Lib.hid (cmpN_lt (agree_lt Hs.out Hx.out (by rw [← Hx'.out, ← Hy'.out]; exact hlt)))
        go_wp2_with fail
        refine L1.out.mono ?_
        rintro e w' ⟨rfl, rfl⟩
        go_wp2_with fail
        refine L2.out.mono ?_
        rintro e w' ⟨rfl, rfl⟩
        go_wp2
        go_ret
        refine ⟨_, rfl, ?_, Below.refl _ _⟩
        show Value.int _ _ = Value.int _ _
        rw [HF.out]
      · subst heq
        have HA := Lib.hid (agree_step Hs.out (by rw [← Hx'.out, ← Hy'.out]))
        go_wp2_with fail
        refine L1.out.mono ?_
        rintro e w' ⟨rfl, rfl⟩
        go_wp2_with fail
        refine L2.out.mono ?_
        rintro e w' ⟨rfl, rfl⟩
        go_wp2_with fail
        refine L1.out.mono ?_
        rintro e w' ⟨rfl, rfl⟩
        go_wp2_with fail
        refine L2.out.mono ?_
        rintro e w' ⟨rfl, rfl⟩
        go_wp2
        go_round
        case rel => exact ⟨j, by omega, by go_num, HA⟩
        case measure => simp [intOf] <;> omega
      · have HF : Hid (cmpN (val xs) (val ys) = 1) := Lib.hid (cmpN_gt (agree_gt Hs.out Hy.out (by rw [← Hx'.out, ← Hy'.out]; exact hgt)))
        go_wp2_with fail
        refine L1.out.mono ?_
        rintro e w' ⟨rfl, rfl⟩
        go_wp2_with fail
        refine L2.out.mono ?_
        rintro e w' ⟨rfl, rfl⟩
        go_wp2_with fail
        refine L1.out.mono ?_
        rintro e w' ⟨rfl, rfl⟩
        go_wp2_with fail
        refine L2.out.mono ?_
        rintro e w' ⟨rfl, rfl⟩
        go_wp2
        go_ret
        refine ⟨_, rfl, ?_, Below.refl _ _⟩
        show Value.int _ _ = Value.int _ _
        rw [HF.out]
def raddInv (k c : Nat) (os xs ys : List Nat) : Prop := os.length = k ∧ lims os ∧ c ≤ 1 ∧ val os + 4294967296 ^ k * c = val (xs.take k) + val (ys.take k)
theorem raddInv_zero (xs ys : List Nat) : raddInv 0 0 [] xs ys := ⟨rfl, lims_nil, by decide, by simp [val]⟩
theorem raddInv_step {k c : Nat} {os xs ys : List Nat} (h : raddInv k c os xs ys) (hx : lims xs) (hy : lims ys) (z : Int) (hz : z = (c : Int) + ((xs.getD k 0 : Nat) + (ys.getD k 0 : Nat))) :
    raddInv (k + 1) (z / 4294967296).toNat (os ++ [(z % 4294967296).toNat]) xs ys := by
  obtain ⟨h1, h2, h3, h4⟩ := h
  have b1 := lims_getD hx k
  have b2 := lims_getD hy k
  refine ⟨by simp [h1], lims_append h2 (lims_cons (by omega) lims_nil), by omega, ?_⟩
  rw [val_snoc, h1, val_take_step xs, val_take_step ys, Nat.pow_succ]
  have := add_step (o := val os) (x := val (xs.take k) + val (ys.take k)) (y := xs.getD k 0 + ys.getD k 0) (p := 4294967296 ^ k) (c := c) (d := (z % 4294967296).toNat) (o' := (z / 4294967296).toNat) h4 (by omega)
  rw [this, Nat.mul_add]; omega
theorem raddInv_end {k c : Nat} {os xs ys : List Nat} (h : raddInv k c os xs ys) (hx : xs.length ≤ k) (hy : ys.length ≤ k) : lims (os ++ [c]) ∧ (os ++ [c]).length = k + 1 ∧ val (os ++ [c]) = val xs + val ys := by
  obtain ⟨h1, h2, h3, h4⟩ := h
  refine ⟨lims_append h2 (lims_cons (by omega) lims_nil), by simp [h1], ?_⟩
  rw [val_snoc, h1, h4, val_take_ge hx, val_take_ge hy]
set_option maxHeartbeats 1000000 in
theorem radd_any (v v' : Value) (xs ys : List Nat) (w : World) (h : Sl w v xs) (h' : Sl w v' ys) (hxl : xs.length ≤ 4294967296) (hyl : ys.length ≤ 4294967296) :
    Calls Tryz.prog 147 #[v, v'] w (Ret w (Num (val xs + val ys))) := by
  have Hx := Lib.hid h.lims
  have Hy := Lib.hid h'.lims
  have H := Lib.hid h
  have H' := Lib.hid h'
  obtain ⟨ad, n, cap, rfl, hn, -⟩ := h
  obtain ⟨ad', n', cap', rfl, hn', -⟩ := h'
  have hb : n ≤ 4294967296 := by omega
  have hb' : n' ≤ 4294967296 := by omega
  have Hn := Lib.hid hn
  have Hn' := Lib.hid hn'
  clear hn hn' hxl hyl
  go_enter Tryz.func147, Tryz.ntmps147
  go_wp2_with fail
  go_loopw [5, 6, 7] (fun o cy i wr => ∃ (k c : Nat) (os : List Nat), k ≤ 4294967296 ∧ i = .int .i64 (k : Int) ∧ cy = .int .u64 (c : Int) ∧ Hid (OwnU wr w.heap.size 156 o os) ∧ Hid (raddInv k c os xs ys) ∧ Hid (Below w.heap.size w wr)) (fun _ _ i _ => 4294967296 - (intOf i).toNat)
  case atStart => exact ⟨0, 0, [], by omega, rfl, rfl, Lib.hid (OwnU.nil _ _ _), Lib.hid (raddInv_zero _ _), Lib.hid (Below.refl _ _)⟩
  case round =>
    obtain ⟨k, c, os, hk, rfl, rfl, HO, Hs, Hbl⟩ := hrel
    have hc1 := Hs.out.2.2.1
    obtain ⟨x, hx⟩ : ∃ x, x = xs.getD k 0 := ⟨_, rfl⟩
    obtain ⟨y, hy⟩ : ∃ y, y = ys.getD k 0 := ⟨_, rfl⟩
    have bx := lims_getD Hx.out k
    have by' := lims_getD Hy.out k
    have L1 := Lib.hid (limb_any _ xs k _ (H.out.below Hbl.out) (by omega))
    have L2 := Lib.hid (limb_any _ ys k _ (H'.out.below Hbl.out) (by omega))
    rw [← hx] at L1 bx
    rw [← hy] at L2 by'
    have Hx' := Lib.hid hx; clear hx
    have Hy' := Lib.hid hy; clear hy
    have Hosl : Hid (os.length ≤ 1099511627776) := Lib.hid (by have := Hs.out.1; omega)
    by_cases hkn : k < n ∨ k < n'
    · have hk4 : k < 4294967296 := by omega
      by_cases hkn1 : k < n
      · clear hkn
        go_wp2_with fail
        refine L1.out.mono ?_
        rintro e w' ⟨rfl, rfl⟩
        go_wp2_with fail
        refine L2.out.mono ?_
        rintro e w' ⟨rfl, rfl⟩
        go_wp2_with (at_builtin; refine wpList_push_u32 _ rfl _ _ _ _ rfl 156 Tryz.underlying34 Tryz.underlying34 Tryz.infoU32 w.heap.size _ os rfl (HO.out.below ((Below.refl _ _).alloc (Nat.le_refl _) _) (Nat.le_refl _)) _ 1 (((c : Int) + ((x : Int) + (y : Int))) % 4294967296) rfl (by simp) (by omega) Hosl.out (by have := Hbl.out.size; simp; omega) ?_; intro v3 w3 h3 hb3)
        go_wp2
        go_roundw
        case rel =>
          exact ⟨k + 1, _, _, by omega, by go_num, congrArg (Value.int .u64) (Int.toNat_of_nonneg (by omega)).symm, Lib.hid h3, Lib.hid (raddInv_step Hs.out Hx.out Hy.out _ (by rw [← Hx'.out, ← Hy'.out])), Lib.hid ((Hbl.out.alloc Hbl.out.size _).trans hb3)⟩
        case measure => simp [intOf] <;> omega
      · have hkn2 : k < n' := by omega
        clear hkn
        go_wp2_with fail
        refine L1.out.mono ?_
        rintro e w' ⟨rfl, rfl⟩
        go_wp2_with fail
        refine L2.out.mono ?_
        rintro e w' ⟨rfl, rfl⟩
        go_wp2_with (at_builtin; refine wpList_push_u32 _ rfl _ _ _ _ rfl 156 Tryz.underlying34 Tryz.underlying34 Tryz.infoU32 w.heap.size _ os rfl (HO.out.below ((Below.refl _ _).alloc (Nat.le_refl _) _) (Nat.le_refl _)) _ 1 (((c : Int) + ((x : Int) + (y : Int))) % 4294967296) rfl (by simp) (by omega) Hosl.out (by have := Hbl.out.size; simp; omega) ?_; intro v3 w3 h3 hb3)
        go_wp2
        go_roundw
        case rel =>
          exact ⟨k + 1, _, _, by omega, by go_num, congrArg (Value.int .u64) (Int.toNat_of_nonneg (by omega)).symm, Lib.hid h3, Lib.hid (raddInv_step Hs.out Hx.out Hy.out _ (by rw [← Hx'.out, ← Hy'.out])), Lib.hid ((Hbl.out.alloc Hbl.out.size _).trans hb3)⟩
        case measure => simp [intOf] <;> omega
    · have hk1 : ¬ k < n := by omega
      have hk2 : ¬ k < n' := by omega
      have HE := Lib.hid (raddInv_end Hs.out (by have := Hn.out; omega) (by have := Hn'.out; omega))
      clear hkn L1 L2
      go_wp2_with (at_builtin; refine wpList_push_u32 _ rfl _ _ _ _ rfl 156 Tryz.underlying34 Tryz.underlying34 Tryz.infoU32 w.heap.size _ os rfl (HO.out.below ((Below.refl _ _).alloc (Nat.le_refl _) _) (Nat.le_refl _)) _ 1 ((c : Int)) rfl (by simp) (by omega) Hosl.out (by have := Hbl.out.size; simp; omega) ?_; intro v3 w3 h3 hb3)
      rw [Int.toNat_natCast] at h3
      have HB := Lib.hid ((Hbl.out.alloc Hbl.out.size _).trans hb3)
      clear hb3
      go_wp2_with fail
      refine (rmake_any _ _ _ (h3.sl HE.out.1 (by rw [HE.out.2.1]; omega))).mono ?_
      rintro e w4 ⟨v4, rfl, h4, hb4⟩
      rw [HE.out.2.2] at h4
      have HB2 := HB.out.trans (hb4.mono HB.out.size)
      clear hb4
      go_wp2
      go_ret
      exact ⟨_, rfl, h4, HB2⟩
end Go.Proofs.YtikglhmabidjoaaGreatDoor
namespace Go.Proofs.YtikglhmabidjoaaGreatDoor
open Go.RowKit Nt
def rsubInv (k c : Nat) (os xs ys : List Nat) : Prop := os.length = k ∧ lims os ∧ c ≤ 1 ∧ val os + val (ys.take k) = val (xs.take k) + 4294967296 ^ k * c
theorem rsubInv_zero (xs ys : List Nat) : rsubInv 0 0 [] xs ys := ⟨rfl, lims_nil, by decide, by simp [val]⟩
theorem rsubInv_step {k c o d : Nat} {os xs ys : List Nat} (h : rsubInv k c os xs ys) (hx : lims xs) (hy : lims ys) (hd : d + ys.getD k 0 + c = xs.getD k 0 + 4294967296 * o) (hd1 : d < 4294967296) :
    rsubInv (k + 1) o (os ++ [d]) xs ys := by
  obtain ⟨h1, h2, h3, h4⟩ := h
  have b1 := lims_getD hx k
  have b2 := lims_getD hy k
  refine ⟨by simp [h1], lims_append h2 (lims_cons hd1 lims_nil), by omega, ?_⟩
  rw [val_snoc, h1, val_take_step xs, val_take_step ys, Nat.pow_succ]
  have e : 4294967296 ^ k * (d + ys.getD k 0 + c) = 4294967296 ^ k * (xs.getD k 0 + 4294967296 * o) := by rw [hd]
  rw [Nat.mul_add, Nat.mul_add, Nat.mul_add, ← Nat.mul_assoc] at e
  omega
theorem rsubInv_end {n c : Nat} {os xs ys : List Nat} (h : rsubInv n c os xs ys) (hx : lims xs) (hn : xs.length = n) (hle : val ys ≤ val xs) : lims os ∧ os.length = n ∧ val os = val xs - val ys := by
  obtain ⟨h1, h2, h3, h4⟩ := h
  refine ⟨h2, h1, ?_⟩
  have hxl := val_lt hx
  rw [hn] at hxl
  have hyt : val (ys.take n) = val ys := by
    rcases Nat.lt_or_ge n ys.length with hlt | hge
    · have e := val_take_drop ys n (by omega)
      have : val (ys.drop n) = 0 := by
        rcases Nat.eq_zero_or_pos (val (ys.drop n)) with h0 | h0
        · exact h0
        · have : 4294967296 ^ n * 1 ≤ 4294967296 ^ n * val (ys.drop n) := Nat.mul_le_mul_left _ h0
          omega
      rw [this] at e; omega
    · exact val_take_ge hge
  rw [hyt, val_take_ge (xs := xs) (by omega)] at h4
  have := val_lt h2
  rw [h1] at this
  have hc : c = 0 := by
    rcases Nat.eq_zero_or_pos c with h | h
    · exact h
    · have : c = 1 := by omega
      subst this; omega
  subst hc; omega
def NumEF (B n : Nat) (err : Int) (w : World) (v : Value) : Prop := ∃ a, v = .tuple #[a, .int .i64 err] ∧ Sl w a (limbs n) ∧ FreshS B a
set_option maxHeartbeats 400000 in
theorem rsub_noF (v v' : Value) (xs ys : List Nat) (w : World) (h : Sl w v xs) (h' : Sl w v' ys) (hlt : val xs < val ys) :
    Calls Tryz.prog 148 #[v, v'] w (Ret w (NumEF w.heap.size 0 2)) := by
  go_enter Tryz.func148, Tryz.ntmps148
  go_wp2_with fail
  refine (rcmp_any _ _ _ _ _ h h').mono ?_
  rintro e wc ⟨v3, rfl, h3, hbc⟩
  unfold Val at h3
  subst h3
  rw [cmpN_lt hlt]
  clear hlt
  go_wp2
  go_ret2
  exact ⟨_, rfl, ⟨_, rfl, by rw [limbs_zero]; exact Sl.nil _, FreshS.nil _⟩, hbc⟩
set_option maxHeartbeats 1000000 in
theorem rsub_yesF (v v' : Value) (xs ys : List Nat) (w : World) (h : Sl w v xs) (h' : Sl w v' ys) (hxl : xs.length ≤ 4294967296) (hle : val ys ≤ val xs) :
    Calls Tryz.prog 148 #[v, v'] w (Ret w (NumEF w.heap.size (val xs - val ys) 0)) := by
  have hcd := cmp_not_neg hle
  have Hle := Lib.hid hle; clear hle
  have Hx := Lib.hid h.lims
  have Hy := Lib.hid h'.lims
  have H := Lib.hid h
  have H' := Lib.hid h'
  obtain ⟨ad, n, cap, rfl, hn, -⟩ := h
  have hb : n ≤ 4294967296 := by omega
  have Hn := Lib.hid hn
  clear hn hxl h'
  go_enter Tryz.func148, Tryz.ntmps148
  go_wp2_with fail
  refine (rcmp_any _ _ _ _ _ H.out H'.out).mono ?_
  rintro e wc ⟨v3, rfl, h3, hbc⟩
  unfold Val at h3
  subst h3
  generalize cmpN (val xs) (val ys) = cm at *
  have Hbc := Lib.hid hbc; clear hbc
  have Hc := Lib.hid (H.out.below Hbc.out)
  have Hc' := Lib.hid (H'.out.below Hbc.out)
  go_wp2_with fail
  go_loopw [6, 7, 8, 9, 10] (fun o bo i _ _ wr => ∃ (k c : Nat) (os : List Nat), k ≤ n ∧ i = .int .i64 (k : Int) ∧ bo = .int .u64 (c : Int) ∧ Hid (OwnU wr wc.heap.size 156 o os) ∧ Hid (rsubInv k c os xs ys) ∧ Hid (Below wc.heap.size wc wr)) (fun _ _ i _ _ _ => n - (intOf i).toNat)
  case atStart => exact ⟨0, 0, [], by omega, rfl, rfl, Lib.hid (OwnU.nil _ _ _), Lib.hid (rsubInv_zero _ _), Lib.hid (Below.refl _ _)⟩
  case round =>
    obtain ⟨k, c, os, hk, rfl, rfl, HO, Hs, Hbl⟩ := hrel
    have hc1 := Hs.out.2.2.1
    have Hosl : Hid (os.length ≤ 1099511627776) := Lib.hid (by have := Hs.out.1; omega)
    by_cases hkn : k < n
    · obtain ⟨x, hx⟩ : ∃ x, x = xs.getD k 0 := ⟨_, rfl⟩
      obtain ⟨y, hy⟩ : ∃ y, y = ys.getD k 0 := ⟨_, rfl⟩
      have bx := lims_getD Hx.out k
      have by' := lims_getD Hy.out k
      have L1 := Lib.hid (limb_any _ xs k _ (Hc.out.below Hbl.out) (by omega))
      have L2 := Lib.hid (limb_any _ ys k _ (Hc'.out.below Hbl.out) (by omega))
      rw [← hx] at L1 bx
      rw [← hy] at L2 by'
      have Hx' := Lib.hid hx; clear hx
      have Hy' := Lib.hid hy; clear hy
      by_cases hlt : x < y + c
      · have Hlt := Lib.hid hlt
        go_wp2_with fail
        refine L1.out.mono ?_
        rintro e w' ⟨rfl, rfl⟩
        go_wp2_with fail
        refine L2.out.mono ?_
        rintro e w' ⟨rfl, rfl⟩
        go_wp2_with (at_builtin; refine wpList_push_u32 _ rfl _ _ _ _ rfl 156 Tryz.underlying34 Tryz.underlying34 Tryz.infoU32 wc.heap.size _ os rfl (HO.out.below ((Below.refl _ _).alloc (Nat.le_refl _) _) (Nat.le_refl _)) _ 1 ((x : Int) + 4294967296 - ((y : Int) + (c : Int))) rfl (by simp) (by omega) Hosl.out (by have := Hbl.out.size; simp; omega) ?_; intro v3 w3 h3 hb3)
        go_wp2
        go_roundw
        case rel =>
          exact ⟨k + 1, 1, _, by omega, by go_num, rfl, Lib.hid h3, Lib.hid (rsubInv_step Hs.out Hx.out Hy.out (by rw [← Hx'.out, ← Hy'.out]; omega) (by omega)), Lib.hid ((Hbl.out.alloc Hbl.out.size _).trans hb3)⟩
        case measure => simp [intOf] <;> omega
      · have hge : y + c ≤ x := by omega
        go_wp2_with fail
        refine L1.out.mono ?_
        rintro e w' ⟨rfl, rfl⟩
        go_wp2_with fail
        refine L2.out.mono ?_
        rintro e w' ⟨rfl, rfl⟩
        go_wp2_with (at_builtin; refine wpList_push_u32 _ rfl _ _ _ _ rfl 156 Tryz.underlying34 Tryz.underlying34 Tryz.infoU32 wc.heap.size _ os rfl (HO.out.below ((Below.refl _ _).alloc (Nat.le_refl _) _) (Nat.le_refl _)) _ 1 ((x : Int) - ((y : Int) + (c : Int))) rfl (by simp) (by omega) Hosl.out (by have := Hbl.out.size; simp; omega) ?_; intro v3 w3 h3 hb3)
        go_wp2
        go_roundw
        case rel =>
          exact ⟨k + 1, 0, _, by omega, by go_num, rfl, Lib.hid h3, Lib.hid (rsubInv_step Hs.out Hx.out Hy.out (by rw [← Hx'.out, ← Hy'.out]; omega) (by omega)), Lib.hid ((Hbl.out.alloc Hbl.out.size _).trans hb3)⟩
        case measure => simp [intOf] <;> omega
    · obtain rfl : k = n := by omega
      have HE := Lib.hid (rsubInv_end Hs.out Hx.out Hn.out Hle.out)
      go_wp2_with fail
      refine (rmake_anyF _ _ _ (HO.out.sl HE.out.1 Hosl.out)).mono ?_
      rintro e w4 ⟨v4, rfl, ⟨h4, hf4⟩, hb4⟩
      rw [HE.out.2.2] at h4
      have hf5 := hf4.mono (Nat.le_trans Hbc.out.size Hbl.out.size)
      clear hf4
      have HB2 := Hbc.out.trans ((Hbl.out.trans (hb4.mono Hbl.out.size)).mono Hbc.out.size)
      clear hb4
      go_wp2
      go_ret2
      exact ⟨_, rfl, ⟨_, rfl, h4, hf5⟩, HB2⟩
theorem rsub_anyF (v v' : Value) (xs ys : List Nat) (w : World) (h : Sl w v xs) (h' : Sl w v' ys) (hx : xs.length ≤ 4294967296) :
    Calls Tryz.prog 148 #[v, v'] w (Ret w (NumEF w.heap.size (val xs - val ys) (subErr (val xs) (val ys)))) := by
  rcases Nat.lt_or_ge (val xs) (val ys) with hlt | hle
  · rw [subErr_lt hlt, show val xs - val ys = 0 by omega]
    exact rsub_noF v v' xs ys w h h' hlt
  · rw [subErr_le hle]
    exact rsub_yesF v v' xs ys w h h' hx hle
theorem rsub_any (v v' : Value) (xs ys : List Nat) (w : World) (h : Sl w v xs) (h' : Sl w v' ys) (hx : xs.length ≤ 4294967296) :
    Calls Tryz.prog 148 #[v, v'] w (Ret w (NumE (val xs - val ys) (subErr (val xs) (val ys)))) :=
  (rsub_anyF v v' xs ys w h h' hx).mono fun _ _ ⟨u, h1, ⟨a, h2, h3, _⟩, h4⟩ => ⟨u, h1, ⟨a, h2, h3⟩, h4⟩
theorem limb_q (v : Value) (xs : List Nat) (i : Nat) (w : World) (h : Sl w v xs) (hi : i ≤ 1099511627780) (n : Nat) :
    Calls Tryz.prog 145 #[v, .int .i64 (i : Int)] (w.drewN n) fun e w' => e = .returned (.int .u32 ((xs.getD i 0 : Nat) : Int)) ∧ w' = w.drewN n :=
  (limb_any v xs i (w.drewN n) (h.below (below_drewN (Below.refl _ _) n)) hi).mono fun _ _ h => ⟨h.1, h.2.symm⟩
set_option maxRecDepth 100000 in
set_option maxHeartbeats 1000000 in
theorem rmul_any (v v' : Value) (xs ys : List Nat) (w : World) (h : Sl w v xs) (h' : Sl w v' ys) (hxl : xs.length ≤ 4294967296) (hyl : ys.length ≤ 4294967296) :
    Calls Tryz.prog 97 #[v, v'] w (Ret w (Num (val xs * val ys))) := by
  have Hx := Lib.hid h.lims
  have Hy := Lib.hid h'.lims
  have H' := Lib.hid h'
  obtain ⟨ad, n, cap, rfl, hn, -, -, -, hs⟩ := h
  obtain ⟨ad', m, cap', rfl, hm, -⟩ := h'
  have hb : n ≤ 4294967296 := by omega
  have hb' : m ≤ 4294967296 := by omega
  have Hn := Lib.hid hn
  have Hm := Lib.hid hm
  clear hn hm hxl hyl
  go_enter Tryz.func97, Tryz.ntmps97
  go_wp2_with (at_make; refine wpList_make_u32 _ rfl _ _ _ rfl 156 Tryz.underlying34 Tryz.infoU32 _ (n + (m + 1)) rfl rfl (by omega) (by omega) ?_; intro w0 hA0 hb0 _)
  go_wp2
  go_loopw [6, 7, 8] (fun i _ _ wr => ∃ k os, k ≤ n ∧ i = .int .i64 ((k : Nat) : Int) ∧ Arr wr w.heap.size os ∧ Hid (mulOut n (m + 1) k os xs ys) ∧ Hid (Below w.heap.size w wr)) (fun i _ _ _ => n - (intOf i).toNat)
  case atStart => exact ⟨0, _, Nat.zero_le _, rfl, hA0, Lib.hid (mulOut_zero _ _ _ _), Lib.hid hb0⟩
  case round =>
    obtain ⟨i, os, hi, rfl, hA, Hs, Hbl⟩ := hrel
    by_cases hin : i < n
    · obtain ⟨b1, off, rfl, hbw, hc⟩ := hs (by omega)
      have C1 := Lib.hid (hc i hin)
      have bx := lims_getD Hx.out i
      obtain ⟨x, hx⟩ : ∃ x, x = xs.getD i 0 := ⟨_, rfl⟩
      rw [← hx] at bx C1
      have Hx' := Lib.hid hx; clear hx hc hs
      obtain ⟨wo, rfl⟩ : ∃ wo : World, wo = wr := ⟨_, rfl⟩
      go_wp2
      go_loopw [7, 8] (fun cy j wr => ∃ k c os, k ≤ m + 1 ∧ j = .int .i64 ((k : Nat) : Int) ∧ cy = .int .u64 ((c : Nat) : Int) ∧ Arr wr w.heap.size os ∧ Hid (mulIn n (m + 1) i k c os xs ys) ∧ Hid (Below w.heap.size w wr)) (fun _ j _ => m + 1 - (intOf j).toNat)
      case atStart => exact ⟨0, 0, os, Nat.zero_le _, rfl, rfl, hA, Lib.hid (mulIn_zero Hs.out), Hbl⟩
      case round =>
        clear hA Hs Hbl
        obtain ⟨k, c, os, hk, rfl, rfl, hA, Hs, Hbl⟩ := hrel
        have ⟨hol, hos, _, hcb, _⟩ := Hs.out
        have Ol := Lib.hid hol; clear hol
        by_cases hkm : k ≤ m
        · have by' := lims_getD Hy.out k
          have bo := lims_getD hos (i + k)
          obtain ⟨y, hy⟩ : ∃ y, y = ys.getD k 0 := ⟨_, rfl⟩
          obtain ⟨u, hu⟩ : ∃ u, u = os.getD (i + k) 0 := ⟨_, rfl⟩
          have c1 := (Hbl.out.cell (p := ⟨b1, off + i, none⟩) hbw).trans C1.out
          have c3 := hA.cell (i + k) (by rw [Ol.out]; omega)
          have c4 := hA.frozen (i + k)
          have L2 := Lib.hid (limb_q _ ys k _ (H'.out.below Hbl.out) (by omega))
          rw [← hy] at by' L2
          rw [← hu] at bo c3
          have Hy' := Lib.hid hy; clear hy
          have Hu := Lib.hid hu; clear hu
          have hxy := mul_bound bx by'
          clear hos
          go_wp2_with fail
          go_quiet ((go_at_call 145; exact Calls.quiet_of_same (L2.out _)))
          go_wp2
          go_roundw
          case rel =>
            exact ⟨k + 1, _, _, by omega, by go_num, congrArg (Value.int .u64) (Int.toNat_of_nonneg (by omega)).symm, hA.drewN.setI (i + k) _ (by omega), Lib.hid (mulIn_stepI Hs.out (by omega) hin Hx'.out Hy'.out Hu.out Hx.out Hy.out _ rfl), Lib.hid ((below_drewN Hbl.out _).setCell (Nat.le_refl _) _)⟩
          case measure => simp [intOf] <;> omega
        · obtain rfl : k = m + 1 := by omega
          have hD := mulIn_done Hs.out Hx.out Hy.out (by have := Hm.out; omega)
          obtain ⟨hc0, hO⟩ := hD
          subst hc0
          have HO := Lib.hid hO; clear hO hos
          go_wp2
          go_roundw
          case rel => exact ⟨i + 1, _, by omega, by go_num, hA, HO, Hbl⟩
          case measure => simp [intOf] <;> omega
    · obtain rfl : i = n := by omega
      have HE := Lib.hid (mulOut_end Hs.out (by have := Hn.out; omega))
      go_wp2_with fail
      refine (rmake_any _ _ _ (hA.sl (n := i + (m + 1)) HE.out.1 HE.out.2.1 (Nat.le_refl _) (by omega))).mono ?_
      rintro e w4 ⟨v1, rfl, h1, hb4⟩
      rw [HE.out.2.2] at h1
      have HB := Hbl.out.trans (hb4.mono Hbl.out.size)
      clear hb4
      go_wp2
      go_ret
      exact ⟨_, rfl, h1, HB⟩
end Go.Proofs.YtikglhmabidjoaaGreatDoor
namespace Go.Proofs.YtikglhmabidjoaaGreatDoor
open Go.RowKit Nt
def rshlInv (q r k c : Nat) (os xs : List Nat) : Prop := os.length = q + k ∧ lims os ∧ c < 2 ^ r ∧ val os + 4294967296 ^ (q + k) * c = 4294967296 ^ q * (2 ^ r * val (xs.take k))
theorem rshlInv_zero (q r : Nat) (xs : List Nat) : rshlInv q r 0 0 (List.replicate q 0) xs :=
  ⟨by simp, lims_replicate _, Nat.pow_pos (by decide), by simp [val, val_replicate]⟩
theorem rshlInv_step {q r k c x : Nat} {os xs : List Nat} (h : rshlInv q r k c os xs) (hx : lims xs) (he : x = xs.getD k 0) :
    rshlInv q r (k + 1) ((c + x * 2 ^ r) / 4294967296) (os ++ [(c + x * 2 ^ r) % 4294967296]) xs := by
  obtain ⟨h1, h2, h3, h4⟩ := h
  have bx := lims_getD hx k
  rw [← he] at bx
  refine ⟨by simp [h1]; omega, lims_append h2 (lims_cons (by omega) lims_nil), ?_, ?_⟩
  · apply Nat.div_lt_of_lt_mul
    have h5 : (x + 1) * 2 ^ r ≤ 4294967296 * 2 ^ r := Nat.mul_le_mul_right _ bx
    rw [Nat.add_mul] at h5; omega
  · rw [val_snoc, h1, val_take_step xs, ← he]
    have e1 : 4294967296 ^ q * (2 ^ r * (val (xs.take k) + 4294967296 ^ k * x)) = 4294967296 ^ q * (2 ^ r * val (xs.take k)) + 4294967296 ^ (q + k) * (x * 2 ^ r) := by
      rw [Nat.pow_add]; grind
    have e2 : 4294967296 ^ (q + (k + 1)) * ((c + x * 2 ^ r) / 4294967296) = 4294967296 ^ (q + k) * (4294967296 * ((c + x * 2 ^ r) / 4294967296)) := by
      rw [← Nat.add_assoc, Nat.pow_succ, Nat.mul_assoc]
    have e3 : 4294967296 ^ (q + k) * ((c + x * 2 ^ r) % 4294967296) + 4294967296 ^ (q + k) * (4294967296 * ((c + x * 2 ^ r) / 4294967296)) = 4294967296 ^ (q + k) * c + 4294967296 ^ (q + k) * (x * 2 ^ r) := by
      rw [← Nat.mul_add, ← Nat.mul_add]; congr 1; omega
    rw [e1, e2]; omega
theorem rshlInv_end {q r n c K : Nat} {os xs : List Nat} (h : rshlInv q r n c os xs) (hr : r ≤ 31) (hn : xs.length ≤ n) (hK : K = 32 * q + r) : lims (os ++ [c]) ∧ (os ++ [c]).length = q + n + 1 ∧ val (os ++ [c]) = val xs * 2 ^ K := by
  obtain ⟨h1, h2, h3, h4⟩ := h
  have h31 : 2 ^ r ≤ 2 ^ 31 := Nat.pow_le_pow_right (by decide) hr
  have e31 : 2 ^ 31 = 2147483648 := by decide
  refine ⟨lims_append h2 (lims_cons (by omega) lims_nil), by simp [h1], ?_⟩
  rw [val_snoc, h1, h4, val_take_ge hn, hK, Nat.pow_add, Nat.pow_mul]
  have e32 : (2 : Nat) ^ 32 = 4294967296 := by decide
  rw [e32]; grind
theorem or_shl {c x r : Nat} (hc : c < 2 ^ r) (hx : x < 4294967296) (hr : r ≤ 31) : bits .or .u64 (c : Int) (IntKind.u64.wrap ((x : Int) * 2 ^ r)) = ((c + x * 2 ^ r : Nat) : Int) ∧ c + x * 2 ^ r < 18446744073709551616 := by
  have h31 : 2 ^ r ≤ 2 ^ 31 := Nat.pow_le_pow_right (by decide) hr
  have e31 : 2 ^ 31 = 2147483648 := by decide
  have h2 : x * 2 ^ r ≤ 4294967295 * 2 ^ 31 := Nat.mul_le_mul (by omega) h31
  rw [wrap_shl hx (by omega), u64_or_nat _ _ (by omega) (shl_bound hx (by omega)), or_low hc]
  exact ⟨rfl, by omega⟩
set_option maxHeartbeats 1000000 in
theorem rshl_any (v : Value) (xs : List Nat) (K : Nat) (w : World) (h : Sl w v xs) (hxl : xs.length ≤ 4294967296) (hK : K ≤ 1048576) :
    Calls Tryz.prog 186 #[v, .int .i64 (K : Int)] w (Ret w (Num (val xs * 2 ^ K))) := by
  have Hx := Lib.hid h.lims
  obtain ⟨ad, n, cap, rfl, hn, -, -, -, hs⟩ := h
  have hb : n ≤ 4294967296 := by omega
  have Hn := Lib.hid hn
  obtain ⟨q, hq⟩ : ∃ q, q = K / 32 := ⟨_, rfl⟩
  obtain ⟨r, hr⟩ : ∃ r, r = K % 32 := ⟨_, rfl⟩
  have e1 : ((K : Int) / 32) = (q : Int) := by omega
  have e2 : ((K : Int) % 32) = (r : Int) := by omega
  have hqk : q ≤ 32768 := by omega
  have hr31 : r ≤ 31 := by omega
  have HK2 : Hid (K = 32 * q + r) := Lib.hid (by omega)
  clear hn hxl hq hr
  go_enter Tryz.func186, Tryz.ntmps186
  go_wp2_with (at_make; refine wpList_makeown_u32 _ rfl _ _ _ rfl 156 Tryz.underlying34 Tryz.infoU32 _ q rfl rfl (by omega) (by omega) ?_; intro w0 v0 h0 hb0)
  go_wp2_with fail
  go_loopw [5, 6, 7] (fun o cy i wr => ∃ (k c : Nat) (os : List Nat), k ≤ n ∧ i = .int .i64 (k : Int) ∧ cy = .int .u64 (c : Int) ∧ Hid (OwnU wr w.heap.size 156 o os) ∧ Hid (rshlInv q r k c os xs) ∧ Hid (Below w.heap.size w wr)) (fun _ _ i _ => n - (intOf i).toNat)
  case atStart => exact ⟨0, 0, _, by omega, rfl, rfl, Lib.hid h0, Lib.hid (rshlInv_zero _ _ _), Lib.hid hb0⟩
  case round =>
    obtain ⟨k, c, os, hk, rfl, rfl, HO, Hs, Hbl⟩ := hrel
    have Hosl : Hid (os.length ≤ 1099511627776) := Lib.hid (by have := Hs.out.1; omega)
    have Hc : Hid (c < 2147483648) := Lib.hid (by
      have h1 := Hs.out.2.2.1
      have h31 : 2 ^ r ≤ 2 ^ 31 := Nat.pow_le_pow_right (by decide) hr31
      have e31 : 2 ^ 31 = 2147483648 := by decide
      omega)
    by_cases hkn : k < n
    · obtain ⟨b1, off, rfl, hbw, hc⟩ := hs (by omega)
      have c1 := (Hbl.out.cell (p := ⟨b1, off + k, none⟩) hbw).trans (hc k hkn)
      obtain ⟨x, hx⟩ : ∃ x, x = xs.getD k 0 := ⟨_, rfl⟩
      have bx := lims_getD Hx.out k
      rw [← hx] at c1 bx
      have Hx' := Lib.hid hx; clear hx hc hs
      have hO := or_shl Hs.out.2.2.1 bx hr31
      have HST := Lib.hid (rshlInv_step Hs.out Hx.out Hx'.out)
      obtain ⟨Z, hZ⟩ : ∃ Z, Z = c + x * 2 ^ r := ⟨_, rfl⟩
      rw [← hZ] at hO HST
      obtain ⟨hO1, hO2⟩ := hO
      clear hZ
      go_wp2_with (at_builtin; refine wpList_push_u32 _ rfl _ _ _ _ rfl 156 Tryz.underlying34 Tryz.underlying34 Tryz.infoU32 w.heap.size _ os rfl (HO.out.below ((Below.refl _ _).alloc (Nat.le_refl _) _) (Nat.le_refl _)) _ 1 ((Z : Int) % 4294967296) rfl (by simp) (by omega) Hosl.out (by have := Hbl.out.size; simp; omega) ?_; intro v3 w3 h3 hb3)
      go_wp2
      go_roundw
      case rel =>
        exact ⟨k + 1, _, _, by omega, by go_num, congrArg (Value.int .u64) (Int.natCast_ediv Z 4294967296).symm, Lib.hid h3, Lib.hid (by rw [show ((Z : Int) % 4294967296).toNat = Z % 4294967296 by omega]; exact HST.out), Lib.hid ((Hbl.out.alloc Hbl.out.size _).trans hb3)⟩
      case measure => simp [intOf] <;> omega
    · obtain rfl : k = n := by omega
      have HE := Lib.hid (rshlInv_end Hs.out hr31 (by have := Hn.out; omega) HK2.out)
      have hcb := Hc.out
      clear hs
      go_wp2_with (at_builtin; refine wpList_push_u32 _ rfl _ _ _ _ rfl 156 Tryz.underlying34 Tryz.underlying34 Tryz.infoU32 w.heap.size _ os rfl (HO.out.below ((Below.refl _ _).alloc (Nat.le_refl _) _) (Nat.le_refl _)) _ 1 (c : Int) rfl (by simp) (by omega) Hosl.out (by have := Hbl.out.size; simp; omega) ?_; intro v3 w3 h3 hb3)
      rw [Int.toNat_natCast] at h3
      have HB := Lib.hid ((Hbl.out.alloc Hbl.out.size _).trans hb3)
      clear hb3
      go_wp2_with fail
      refine (rmake_any _ _ _ (h3.sl HE.out.1 (by rw [HE.out.2.1]; omega))).mono ?_
      rintro e w4 ⟨v4, rfl, h4, hb4⟩
      rw [HE.out.2.2] at h4
      have HB2 := HB.out.trans (hb4.mono HB.out.size)
      clear hb4
      go_wp2
      go_ret
      exact ⟨_, rfl, h4, HB2⟩
def rshrInv (k M : Nat) (os : List Nat) : Prop := os.length = k ∧ lims os ∧ val os = M % 4294967296 ^ k
theorem base_alloc {B : Nat} {w : World} (h : B ≤ w.heap.size) (o : Obj) : B ≤ (w.alloc o).heap.size := by simp; omega
end Go.Proofs.YtikglhmabidjoaaGreatDoor
namespace Go.Proofs.YtikglhmabidjoaaGreatDoor
open Go.RowKit Nt
theorem val_of_one {ls : List Nat} (h : ls.length = 1) : val ls = ls.getD 0 0 := by
  have e := val_take_step ls 0
  rw [val_take_ge (by omega)] at e
  simpa [val] using e
theorem val_of_two {ls : List Nat} (h : ls.length = 2) : val ls = ls.getD 0 0 + 4294967296 * ls.getD 1 0 := by
  have e := val_take_step ls 1
  have e0 := val_take_step ls 0
  rw [val_take_ge (by omega), e0] at e
  simpa [val] using e
set_option maxHeartbeats 1000000 in
theorem ruint_any (v : Value) (xs : List Nat) (w : World) (h : Sl w v xs) : Calls Tryz.prog 184 #[v] w (Ret w (UintP (val xs))) := by
  have H2 := Lib.hid (sz_le_two (n := val xs))
  have Hva := Lib.hid (val_limbs (val xs))
  go_enter Tryz.func184, Tryz.ntmps184
  go_wp2_with fail
  refine (rmake_any _ xs _ h).mono ?_
  rintro e w1 ⟨v1, rfl, h1, hb1⟩
  unfold Num at h1
  clear h
  generalize val xs = a at *
  have Hn : Hid ((limbs a).length = sz a) := Lib.hid rfl
  generalize limbs a = ls at *
  obtain ⟨ad, n, cap, rfl, hn, hnc, hm, hx, hs⟩ := h1
  have Hl := Lib.hid hn; clear hn
  have Hx := Lib.hid hx; clear hx
  have Hb1 := Lib.hid hb1; clear hb1
  by_cases h2 : 2 < n
  · have HF : Hid (uintN a = 0 ∧ uintB a = false) := Lib.hid (by
      have h3 : ¬ a < 18446744073709551616 := fun h => by
        have := H2.out.2 h; have h4 := Hn.out; have h5 := Hl.out; omega
      simp [uintN, uintB, h3])
    have t0 : ((n : Int) == 0) = false := by simp; omega
    have t1 : ((n : Int) == 1) = false := by simp; omega
    have t2 : ((n : Int) == 2) = false := by simp; omega
    clear hs
    go_wp2
    go_ret2
    refine ⟨_, rfl, ?_, Hb1.out⟩
    unfold UintP
    rw [HF.out.1, HF.out.2]; rfl
  · have HF : Hid (uintN a = a ∧ uintB a = true) := Lib.hid (by
      have h3 : a < 18446744073709551616 := H2.out.1 (by have h4 := Hn.out; have h5 := Hl.out; omega)
      simp [uintN, uintB, h3])
    by_cases h0 : n = 0
    · subst h0
      have HA : Hid (a = 0) := Lib.hid (sz_eq_zero.1 (by rw [← Hn.out]; exact Hl.out))
      clear hs
      go_wp2
      go_ret2
      refine ⟨_, rfl, ?_, Hb1.out⟩
      unfold UintP
      rw [HF.out.1, HF.out.2, HA.out]; rfl
    · by_cases h1 : n = 1
      · subst h1
        have HA : Hid (a = ls.getD 0 0) := Lib.hid (by rw [← Hva.out]; exact val_of_one Hl.out)
        have bx := lims_getD Hx.out 0
        obtain ⟨b, off, rfl, hbw, hc⟩ := hs (by omega)
        have c1 := hc 0 (by omega)
        rw [Nat.add_zero, ← HA.out] at c1
        rw [← HA.out] at bx
        clear hs hc
        go_wp2
        go_ret2
        refine ⟨_, rfl, ?_, Hb1.out⟩
        unfold UintP
        rw [HF.out.1, HF.out.2]; rfl
      · obtain rfl : n = 2 := by omega
        have HA : Hid (a = ls.getD 0 0 + 4294967296 * ls.getD 1 0) := Lib.hid (by rw [← Hva.out]; exact val_of_two Hl.out)
        have bx := lims_getD Hx.out 0
        have by' := lims_getD Hx.out 1
        obtain ⟨b, off, rfl, hbw, hc⟩ := hs (by omega)
        have c1 := hc 0 (by omega)
        have c2 := hc 1 (by omega)
        rw [Nat.add_zero] at c1
        obtain ⟨x, hx⟩ : ∃ x, x = ls.getD 0 0 := ⟨_, rfl⟩
        obtain ⟨y, hy⟩ : ∃ y, y = ls.getD 1 0 := ⟨_, rfl⟩
        rw [← hx] at c1 bx HA
        rw [← hy] at c2 by' HA
        have ho := or_high bx by'
        rw [← HA.out] at ho
        clear hs hc hx hy
        go_wp2
        go_quiet (fail)
        go_wp2
        go_ret2
        refine ⟨_, rfl, ?_, below_drewN Hb1.out _⟩
        unfold UintP
        rw [HF.out.1, HF.out.2]; rfl
theorem blen_spec (n : Nat) : n < 2 ^ blen n ∧ (0 < n → 2 ^ blen n ≤ 2 * n) := by
  unfold blen
  split
  · rename_i h; subst h; exact ⟨by decide, fun h => absurd h (by decide)⟩
  · rename_i h
    have h3 := Nat.log2_self_le h
    have h4 := @Nat.lt_log2_self n
    exact ⟨h4, fun _ => by rw [Nat.pow_succ]; omega⟩
theorem blen_half {n : Nat} (h : 0 < n) : blen n = blen (n / 2) + 1 := by
  obtain ⟨h1, h2⟩ := blen_spec (n / 2)
  apply blen_uniq h
  · rw [Nat.pow_succ]; omega
  · rw [Nat.pow_succ]
    rcases Nat.eq_zero_or_pos (n / 2) with h0 | h0
    · rw [h0, blen_zero]; omega
    · have := h2 h0; omega
theorem blen_limbs {n : Nat} (h0 : 0 < n) : blen n = 32 * (sz n - 1) + blen ((limbs n).getD (sz n - 1) 0) := by
  rw [blen_top h0]
  have hne : (limbs n).getD (sz n - 1) 0 ≠ 0 := limbs_last h0
  have hlt := lims_getD (lims_limbs n) (sz n - 1)
  generalize (limbs n).getD (sz n - 1) 0 = t at *
  obtain ⟨h1, h2⟩ := bitLen_spec (x := t) (by omega)
  rw [blen_uniq (by omega) h1 (h2 (by omega))]
set_option maxHeartbeats 1000000 in
theorem rbits_any (v : Value) (xs : List Nat) (w : World) (h : Sl w v xs) (hx : xs.length ≤ 8589934592) : Calls Tryz.prog 185 #[v] w (Ret w (Val (.int .i64 ((blen (val xs) : Nat) : Int)))) := by
  have hla := sz_val h.lims
  go_enter Tryz.func185, Tryz.ntmps185
  go_wp2_with fail
  refine (rmake_any _ xs _ h).mono ?_
  rintro e w1 ⟨v1, rfl, h1, hb1⟩
  unfold Num at h1
  have Hb1 := Lib.hid hb1; clear hb1
  clear h
  generalize val xs = a at *
  rcases Nat.eq_zero_or_pos a with h0 | h0
  · subst h0
    rw [limbs_zero] at h1
    obtain ⟨ad, n, cap, rfl, hn, -⟩ := h1
    have : n = 0 := by simpa using hn.symm
    subst this
    clear hn hla
    rw [blen_zero]
    go_wp2
    go_ret
    exact ⟨_, rfl, rfl, Hb1.out⟩
  · have HT := Lib.hid (blen_limbs h0)
    have hp := sz_pos h0
    have hlt := lims_getD (lims_limbs a) (sz a - 1)
    obtain ⟨ad, n, cap, rfl, hn, hnc, hm, hx, hs⟩ := h1
    obtain rfl : n = sz a := hn.symm
    obtain ⟨b, off, rfl, hbw, hc⟩ := hs hp
    have c1 := hc (sz a - 1) (by omega)
    obtain ⟨t, ht⟩ : ∃ t, t = (limbs a).getD (sz a - 1) 0 := ⟨_, rfl⟩
    rw [← ht] at c1 hlt HT
    have hbl : blen t ≤ 32 := by
      obtain ⟨s1, s2⟩ := blen_spec t
      rcases Nat.lt_or_ge 32 (blen t) with h | h
      · exfalso
        have h5 : 2 ^ 33 ≤ 2 ^ blen t := Nat.pow_le_pow_right (by decide) h
        have e : 2 ^ 33 = 8589934592 := by decide
        rcases Nat.eq_zero_or_pos t with hz | hz
        · rw [hz, blen_zero] at h; omega
        · have := s2 hz; omega
      · exact h
    have Hbl := Lib.hid hbl
    generalize blen a = bl at *
    generalize sz a = n at *
    have hne : ((n : Int) == 0) = false := by simp; omega
    clear hc hs ht hn hx h0 hbl
    go_wp2_with fail
    go_loop [3, 4] (fun k x => ∃ j y : Nat, k = .int .i64 (32 * ((n : Int) - 1) + (j : Int)) ∧ x = .int .u32 (y : Int) ∧ j ≤ 32 ∧ y < 4294967296 ∧ Hid (blen t = j + blen y)) (fun _ x => (intOf x).toNat)
    case atStart => exact ⟨0, t, congrArg (Value.int .i64) (by omega), rfl, by omega, hlt, Lib.hid (by omega)⟩
    case round =>
      obtain ⟨j, y, rfl, rfl, hj, hy, Hs⟩ := hrel
      rcases Nat.eq_zero_or_pos y with hy0 | hy0
      · subst hy0
        have HF : Hid (bl = 32 * (n - 1) + j) := Lib.hid (by rw [HT.out, Hs.out, blen_zero, Nat.add_zero])
        clear c1
        go_wp2
        go_ret
        refine ⟨_, rfl, ?_, Hb1.out⟩
        show Value.int _ _ = Value.int _ _
        rw [HF.out]
        congr 1
        omega
      · have HH := Lib.hid (blen_half hy0)
        have hj2 : j + 1 ≤ 32 := by have := HH.out; have := Hs.out; have := Hbl.out; omega
        clear c1
        go_wp2
        go_round
        case rel => exact ⟨j + 1, y / 2, congrArg (Value.int .i64) (by omega), congrArg (Value.int .u32) (by omega), hj2, by omega, Lib.hid (by have := HH.out; have := Hs.out; omega)⟩
        case measure => simp [intOf] <;> omega
end Go.Proofs.YtikglhmabidjoaaGreatDoor
namespace Go.Proofs.YtikglhmabidjoaaGreatDoor
namespace Nt
theorem pow32 (p s : Nat) : 2 ^ (32 * p + s) = 4294967296 ^ p * 2 ^ s := by
  have e32 : (2 : Nat) ^ 32 = 4294967296 := by decide
  rw [Nat.pow_add, Nat.pow_mul, e32]
theorem limb_of {xs : List Nat} (h : lims xs) {p : Nat} (hp : p < xs.length) : xs.getD p 0 = val xs / 4294967296 ^ p % 4294967296 := by
  rw [← val_drop' h p (by omega), drop_cons_val xs p hp]
  have := lims_getD h p
  omega
theorem half_even {B m s : Nat} (h : B % 2 ^ (s + 1) = 0) (x : Nat) : (x + B * m) / 2 ^ s % 2 = x / 2 ^ s % 2 := by
  obtain ⟨c, hc⟩ : ∃ c, B = 2 ^ (s + 1) * c := ⟨B / 2 ^ (s + 1), by have := Nat.div_add_mod B (2 ^ (s + 1)); omega⟩
  have e : x + B * m = x + 2 ^ s * (2 * (c * m)) := by rw [hc, Nat.pow_succ]; grind
  rw [e, Nat.add_mul_div_left _ _ (Nat.pow_pos (by decide))]
  omega
theorem bit_of {xs : List Nat} (h : lims xs) {p s : Nat} (hp : p < xs.length) (hs : s ≤ 31) : xs.getD p 0 / 2 ^ s % 2 = val xs / 2 ^ (32 * p + s) % 2 := by
  rw [pow32, ← Nat.div_div_eq_div_mul, ← val_drop' h p (by omega), drop_cons_val xs p hp]
  have hB : 4294967296 % 2 ^ (s + 1) = 0 := by
    have e : 4294967296 = 2 ^ (s + 1) * 2 ^ (31 - s) := by rw [← Nat.pow_add, show s + 1 + (31 - s) = 32 by omega]
    rw [e]; exact Nat.mul_mod_right _ _
  rw [half_even hB]
theorem bit_step (A j : Nat) : A / 2 ^ j = 2 * (A / 2 ^ (j + 1)) + A / 2 ^ j % 2 := by
  have e : A / 2 ^ (j + 1) = A / 2 ^ j / 2 := by rw [Nat.pow_succ, Nat.div_div_eq_div_mul]
  rw [e]; omega
theorem div_step {m V b : Nat} (hV : 0 < V) (hb : b < 2) :
    (2 * (m % V) + b < V → (2 * m + b) / V = 2 * (m / V) ∧ (2 * m + b) % V = 2 * (m % V) + b) ∧
    (V ≤ 2 * (m % V) + b → (2 * m + b) / V = 2 * (m / V) + 1 ∧ (2 * m + b) % V = 2 * (m % V) + b - V) := by
  have e := Nat.div_add_mod m V
  have hr := Nat.mod_lt m hV
  generalize m / V = Q at *
  generalize m % V = R at *
  constructor
  · intro h
    have e2 : 2 * m + b = (2 * R + b) + V * (2 * Q) := by rw [← e]; grind
    rw [e2]
    exact ⟨by rw [Nat.add_mul_div_left _ _ hV, Nat.div_eq_of_lt h, Nat.zero_add], by rw [Nat.add_mul_mod_self_left, Nat.mod_eq_of_lt h]⟩
  · intro h
    have e3 : V * (2 * Q) = 2 * (V * Q) := by grind
    have e2 : 2 * m + b = (2 * R + b - V) + V * (2 * Q + 1) := by rw [Nat.mul_add, Nat.mul_one, ← e]; omega
    have hlt : 2 * R + b - V < V := by omega
    rw [e2]
    exact ⟨by rw [Nat.add_mul_div_left _ _ hV, Nat.div_eq_of_lt hlt, Nat.zero_add], by rw [Nat.add_mul_mod_self_left, Nat.mod_eq_of_lt hlt]⟩
def bitsInv (n k Q : Nat) (qs : List Nat) : Prop := qs.length = n ∧ lims qs ∧ val qs = 2 ^ k * Q
theorem bitsInv_zero (n k : Nat) : bitsInv n k 0 (List.replicate n 0) := ⟨by simp, lims_replicate n, by rw [val_replicate, Nat.mul_zero]⟩
theorem bitsInv_even {n j Q : Nat} {qs : List Nat} (h : bitsInv n (j + 1) Q qs) : bitsInv n j (2 * Q) qs := by
  obtain ⟨h1, h2, h3⟩ := h
  exact ⟨h1, h2, by rw [h3, Nat.pow_succ]; grind⟩
theorem bitsInv_limb {n p s Q : Nat} {qs : List Nat} (h : bitsInv n (32 * p + s + 1) Q qs) (hp : p < n) (hs : s ≤ 31) : ∃ m, qs.getD p 0 = 2 ^ (s + 1) * m ∧ 2 ^ (s + 1) * m + 2 ^ s < 4294967296 := by
  obtain ⟨h1, h2, h3⟩ := h
  have e := limb_of h2 (p := p) (by omega)
  have hb := lims_getD h2 p
  rw [h3, show 32 * p + s + 1 = 32 * p + (s + 1) by omega, pow32, Nat.mul_assoc, Nat.mul_div_cancel_left _ (Nat.pow_pos (by decide))] at e
  have e32 : 4294967296 = 2 ^ (s + 1) * 2 ^ (31 - s) := by rw [← Nat.pow_add, show s + 1 + (31 - s) = 32 by omega]
  rw [e32, Nat.mul_mod_mul_left] at e
  refine ⟨_, e, ?_⟩
  have hm : Q % 2 ^ (31 - s) < 2 ^ (31 - s) := Nat.mod_lt _ (Nat.pow_pos (by decide))
  have h4 : 2 ^ (s + 1) * (Q % 2 ^ (31 - s) + 1) ≤ 2 ^ (s + 1) * 2 ^ (31 - s) := Nat.mul_le_mul_left _ hm
  rw [← e32, Nat.mul_add] at h4
  have : 0 < 2 ^ s := Nat.pow_pos (by decide)
  have e5 : 2 ^ (s + 1) = 2 ^ s * 2 := Nat.pow_succ _ _
  omega
theorem bitsInv_odd {n p s Q : Nat} {qs : List Nat} (h : bitsInv n (32 * p + s + 1) Q qs) (hp : p < n) (hs : s ≤ 31) : bitsInv n (32 * p + s) (2 * Q + 1) (qs.set p (qs.getD p 0 + 2 ^ s)) := by
  obtain ⟨m, hm, hlt⟩ := bitsInv_limb h hp hs
  obtain ⟨h1, h2, h3⟩ := h
  refine ⟨by simpa using h1, lims_set h2 _ _ (by rw [hm]; exact hlt), ?_⟩
  have e := val_set (xs := qs) (k := p) (x := qs.getD p 0 + 2 ^ s) (by omega)
  rw [Nat.mul_add] at e
  have e2 : 2 ^ (32 * p + s) * (2 * Q + 1) = 2 ^ (32 * p + s + 1) * Q + 4294967296 ^ p * 2 ^ s := by
    rw [Nat.mul_add, Nat.mul_one, ← pow32, Nat.pow_succ]; grind
  omega
end Nt
end Go.Proofs.YtikglhmabidjoaaGreatDoor
namespace Go.Proofs.YtikglhmabidjoaaGreatDoor
open Go.RowKit Nt
set_option maxHeartbeats 1000000 in
theorem rdiv_zero (v v' : Value) (xs ys : List Nat) (w : World) (h : Sl w v xs) (h' : Sl w v' ys) (h0 : val ys = 0) :
    Calls Tryz.prog 150 #[v, v'] w (Ret w (Num2E 0 0 3)) := by
  have hy : uintN (val ys) = 0 ∧ uintB (val ys) = true := by rw [h0]; exact ⟨rfl, rfl⟩
  obtain ⟨hy1, hy2⟩ := hy
  go_enter Tryz.func150, Tryz.ntmps150
  go_wp2_with fail
  refine (ruint_any _ xs _ h).mono ?_
  rintro e w1 ⟨v1, rfl, h1, hb1⟩
  unfold UintP at h1
  subst h1
  have h'1 := h'.below hb1
  go_wp2_with fail
  refine (ruint_any _ ys _ h'1).mono ?_
  rintro e w2 ⟨v2, rfl, h2, hb2⟩
  unfold UintP at h2
  subst h2
  rw [hy1, hy2]
  have HB := hb1.trans (hb2.mono hb1.size)
  clear hb1 hb2 hy1 hy2 h0 h h' h'1
  go_wp2
  go_ret3
  exact ⟨_, rfl, ⟨_, _, rfl, by rw [limbs_zero]; exact Sl.nil _, by rw [limbs_zero]; exact Sl.nil _⟩, HB⟩
set_option maxRecDepth 100000 in
set_option maxHeartbeats 1000000 in
theorem rdiv_small (v v' : Value) (xs ys : List Nat) (w : World) (h : Sl w v xs) (h' : Sl w v' ys) (h0 : 0 < val ys) (hx : val xs < 18446744073709551616) (hy : val ys < 18446744073709551616) :
    Calls Tryz.prog 150 #[v, v'] w (Ret w (Num2E (val xs / val ys) (val xs % val ys) 0)) := by
  have hx12 : uintN (val xs) = val xs ∧ uintB (val xs) = true := by simp [uintN, uintB, hx]
  have hy12 : uintN (val ys) = val ys ∧ uintB (val ys) = true := by simp [uintN, uintB, hy]
  obtain ⟨hx1, hx2⟩ := hx12
  obtain ⟨hy1, hy2⟩ := hy12
  go_enter Tryz.func150, Tryz.ntmps150
  go_wp2_with fail
  refine (ruint_any _ xs _ h).mono ?_
  rintro e w1 ⟨v1, rfl, h1, hb1⟩
  unfold UintP at h1
  subst h1
  have h'1 := h'.below hb1
  go_wp2_with fail
  refine (ruint_any _ ys _ h'1).mono ?_
  rintro e w2 ⟨v2, rfl, h2, hb2⟩
  unfold UintP at h2
  subst h2
  rw [hy1, hy2]
  have HB := Lib.hid (hb1.trans (hb2.mono hb1.size))
  clear hb1 hb2 hy1 hy2 hx1 hx2 h h' h'1
  generalize val xs = x at *
  generalize val ys = y at *
  have hne : ((y : Int) == 0) = false := by simp; omega
  have HR := Lib.hid (Nat.lt_of_le_of_lt (Nat.div_le_self x y) hx)
  have HM := Lib.hid (Nat.lt_trans (Nat.mod_lt x h0) hy)
  have Hn := Lib.hid (show (Tryz.f109.name == "runtime.NumGoroutine") = false from by kernel_rfl)
  obtain ⟨q, hq⟩ : ∃ q, q = x / y := ⟨_, rfl⟩
  obtain ⟨r, hr⟩ : ∃ r, r = x % y := ⟨_, rfl⟩
  rw [← hq] at HR
  rw [← hr] at HM
  have w1 : IntKind.u64.wrap ((x : Int) / (y : Int)) = (q : Int) := by
    have e : (x : Int) / (y : Int) = ((x / y : Nat) : Int) := by simp
    have := HR.out
    rw [e, ← hq, wrap_u64]; omega
  have w2 : (x : Int).tmod (y : Int) = (r : Int) := by rw [hr, Int.tmod_eq_emod_of_nonneg (by omega)]; simp
  have Hq := Lib.hid hq
  have Hr := Lib.hid hr
  have hyne : ¬ y = 0 := by omega
  clear h0 hq hr hx hy
  go_wp2_with fail
  go_region_law (first
    | (refine step_is 109 rfl ?_; refine step_call1 rfl 109 (.tmp 35) _ rfl Tryz.func109 Hn.out rfl rfl (rof_any q _ HR.out) ?_; intro v3 w3 h3 hb3)
    | (refine step_is 109 rfl ?_; refine step_call1 rfl 109 (.tmp 39) _ rfl Tryz.func109 Hn.out rfl rfl (rof_any r _ HM.out) ?_; intro v4 w4 h4 hb4))
  all_goals
    have h3' := h3.below hb4
    have HB2 := HB.out.trans (((Below.refl _ _).drew.trans hb3).mono HB.out.size)
    have HB3 := HB2.trans (hb4.mono HB2.size)
    rw [Hq.out] at h3'
    unfold Num at h4
    rw [Hr.out] at h4
    clear hb3 hb4 h3 HB2 w1 w2
    go_wp2
    go_ret3
    exact ⟨_, rfl, ⟨_, _, rfl, h3', h4⟩, HB3⟩
theorem rshl_one (v : Value) (xs : List Nat) (w : World) (h : Sl w v xs) (hxl : xs.length ≤ 4294967296) :
    Calls Tryz.prog 186 #[v, .int .i64 1] w (Ret w (Num (val xs * 2))) := rshl_any v xs 1 w h hxl (by decide)
theorem and_one (x : Nat) (h : x < 4294967296) : bits .and .u32 (x : Int) 1 = ((x % 2 : Nat) : Int) := by
  have := u32_and_nat x 1 h (by decide)
  rw [Nat.and_one_is_mod] at this
  exact this
theorem cmp_ge {a b : Nat} (h : b ≤ a) : decide (0 ≤ cmpN a b) = true := by
  rcases Nat.lt_or_ge b a with h' | h'
  · rw [cmpN_gt h']; decide
  · rw [cmpN_eq (by omega)]; decide
theorem cmp_nge {a b : Nat} (h : a < b) : decide (0 ≤ cmpN a b) = false := by rw [cmpN_lt h]; decide
end Go.Proofs.YtikglhmabidjoaaGreatDoor
namespace Go.Proofs.YtikglhmabidjoaaGreatDoor
open Go.RowKit Nt
set_option maxRecDepth 100000 in
set_option maxHeartbeats 2000000 in
theorem rdiv_big (v v' : Value) (xs ys : List Nat) (w : World) (h : Sl w v xs) (h' : Sl w v' ys) (hxl : xs.length ≤ 2147483648) (hyl : ys.length ≤ 2147483648) (h0 : 0 < val ys)
    (hbig : uintB (val ys) = false ∨ (uintB (val ys) = true ∧ uintB (val xs) = false)) :
    Calls Tryz.prog 150 #[v, v'] w (Ret w (Num2E (val xs / val ys) (val xs % val ys) 0)) := by
  have hT1 : uintB (val ys) = true → ((uintN (val ys) : Nat) : Int) ≠ 0 := fun hb => by
    have : val ys < 18446744073709551616 := by simpa [uintB] using hb
    simp [uintN, this]; omega
  go_enter Tryz.func150, Tryz.ntmps150
  go_wp2_with fail
  refine (ruint_any _ xs _ h).mono ?_
  rintro e w1 ⟨v1, rfl, h1, hb1⟩
  unfold UintP at h1
  subst h1
  have h1 := h.below hb1
  have h'1 := h'.below hb1
  go_wp2_with fail
  refine (ruint_any _ ys _ h'1).mono ?_
  rintro e w2 ⟨v2, rfl, h2, hb2⟩
  unfold UintP at h2
  subst h2
  have HX := Lib.hid (h1.below hb2)
  have HY := Lib.hid (h'1.below hb2)
  have HB := Lib.hid (hb1.trans (hb2.mono hb1.size))
  have Hyl := Lib.hid hyl
  have H0 := Lib.hid h0
  have HXl := Lib.hid HX.out.lims
  have hbl : blen (val xs) ≤ 68719476736 := by
    rcases Nat.eq_zero_or_pos (val xs) with hz | hz
    · rw [hz, blen_zero]; omega
    · rw [blen_top hz]
      have h3 := sz_val h.lims
      have h4 := bitLen_le (lims_getD (lims_limbs (val xs)) (sz (val xs) - 1))
      omega
  have HBL : Hid (blen (val xs) ≤ 32 * xs.length) := Lib.hid (by
    rcases Nat.eq_zero_or_pos (val xs) with hz | hz
    · rw [hz, blen_zero]; omega
    · rw [blen_top hz]
      have h3 := sz_val h.lims
      have h3' := sz_pos hz
      have h4 := bitLen_le (lims_getD (lims_limbs (val xs)) (sz (val xs) - 1))
      omega)
  have HBS := Lib.hid (blen_spec (val xs))
  have hxl8 : Hid (xs.length ≤ 8589934592) := Lib.hid (by omega)
  obtain ⟨ad, n, cap, rfl, hn, hnc, hm, -, hs⟩ := HX.out
  have hn4 : n ≤ 2147483648 := by omega
  have Hn := Lib.hid hn
  clear h h' h1 h'1 hb1 hb2 hxl hyl h0 hn
  generalize hA : val xs = A at *
  generalize hV : val ys = V at *
  have HA := Lib.hid hA
  have HV := Lib.hid hV
  clear hA hV
  have hcase : (uintB A = true ∧ uintB V = false) ∨ (uintB A = false ∧ uintB V = false) ∨ (uintB A = false ∧ uintB V = true ∧ (((uintN V : Nat) : Int) == 0) = false) := by
    rcases hbig with hb | ⟨hb1, hb2⟩
    · rcases Bool.eq_false_or_eq_true (uintB A) with ha | ha
      · exact Or.inl ⟨ha, hb⟩
      · exact Or.inr (Or.inl ⟨ha, hb⟩)
    · exact Or.inr (Or.inr ⟨hb2, hb1, by simpa using hT1 hb1⟩)
  clear hbig hT1
  rcases hcase with ⟨e1, e2⟩ | ⟨e1, e2⟩ | ⟨e1, e2, e3⟩
  all_goals
    go_wp2_with (at_make; refine wpList_make_u32 _ rfl _ _ _ rfl 156 Tryz.underlying34 Tryz.infoU32 _ n rfl rfl (by omega) (by omega) ?_; intro w0 hA0 hb0 _)
    have HX0 := Lib.hid ((HX.out.below hb0).below ((Below.refl _ _).alloc (Nat.le_refl _) (.cells #[] 156)))
    have HB0 := Lib.hid (hb0.alloc hb0.size (.cells #[] 156))
    have HAr0 := Lib.hid (hA0.below ((Below.refl w0.heap.size w0).alloc (Nat.le_refl _) (.cells #[] 156)) hA0.lt)
    clear hb0 hA0
    go_wp2_with fail
    refine (rbits_any _ xs _ HX0.out hxl8.out).mono ?_
    rintro e w4 ⟨v4, rfl, h4, hb4⟩
    unfold Val at h4
    subst h4
    rw [HA.out]
    have HB4 := Lib.hid (HB0.out.trans (hb4.mono HB0.out.size))
    have HAr4 := Lib.hid (HAr0.out.below hb4 HAr0.out.lt)
    have HN0 : Hid (∀ g, Sl w4 (.slice g 0 0) (limbs (A / 2 ^ blen A % V))) := Lib.hid fun g => by
      rw [Nat.div_eq_of_lt HBS.out.1, Nat.zero_mod, limbs_zero]
      exact ⟨_, 0, 0, rfl, rfl, Nat.le_refl _, by decide, lims_nil, fun h => absurd h (by decide)⟩
    have HI0 : Hid (bitsInv n (blen A) (A / 2 ^ blen A / V) (List.replicate n 0)) := Lib.hid (by
      rw [Nat.div_eq_of_lt HBS.out.1, Nat.zero_div]; exact bitsInv_zero _ _)
    have HBL2 : Hid (blen A ≤ 32 * n) := Lib.hid (by rw [← Hn.out]; exact HBL.out)
    clear hb4 HX0 HB0 HAr0
    go_wp2_with fail
    go_loopw [12, 13] (fun r i wr => ∃ (k : Nat) (qs : List Nat), k ≤ 68719476736 ∧ i = .int .i64 ((k : Int) - 1) ∧ Hid (k ≤ 32 * n) ∧ Hid (Sl wr r (limbs (A / 2 ^ k % V))) ∧ Hid (Arr wr w2.heap.size qs) ∧ Hid (bitsInv n k (A / 2 ^ k / V) qs) ∧ Hid (Below w2.heap.size w2 wr)) (fun _ i _ => (intOf i + 1).toNat)
    case atStart => exact ⟨blen A, _, hbl, rfl, HBL2, Lib.hid (HN0.out _), HAr4, HI0, HB4⟩
    case round =>
      clear HN0 HAr4 HI0 HB4 hbl
      obtain ⟨k, qs, hk, rfl, Hk, HR, HAr, HI, HBl⟩ := hrel
      rcases Nat.eq_zero_or_pos k with hk0 | hk0
      · subst hk0
        rw [Nat.pow_zero, Nat.div_one] at HR HI
        have HQ : Hid (val qs = A / V) := Lib.hid (by rw [HI.out.2.2, Nat.pow_zero, Nat.one_mul])
        go_wp2_with fail
        refine (rmake_any _ qs _ (HAr.out.sl (n := n) HI.out.2.1 HI.out.1 (Nat.le_refl _) (by omega))).mono ?_
        rintro e w5 ⟨v5, rfl, h5, hb5⟩
        rw [HQ.out] at h5
        have HR5 := Lib.hid (HR.out.below hb5)
        have HB5 := Lib.hid (HB.out.trans ((HBl.out.trans (hb5.mono HBl.out.size)).mono HB.out.size))
        clear hb5
        go_wp2
        go_ret3
        exact ⟨_, rfl, ⟨_, _, rfl, h5, HR5.out⟩, HB5.out⟩
      · obtain ⟨j, rfl⟩ : ∃ j, k = j + 1 := ⟨k - 1, by omega⟩
        rw [show ((j + 1 : Nat) : Int) - 1 = (j : Int) from by omega]
        obtain ⟨p, hp⟩ : ∃ p, p = j / 32 := ⟨_, rfl⟩
        obtain ⟨s, hsr⟩ : ∃ s, s = j % 32 := ⟨_, rfl⟩
        have f1 : (j : Int) / 32 = (p : Int) := by omega
        have f2 : (j : Int) % 32 = (s : Int) := by omega
        have f3 : IntKind.i64.wrap ((j : Int) / 32) = (p : Int) := by rw [IntKind.wrap_i64]; omega
        have f4 : (j : Int).tmod 32 = (s : Int) := by rw [Int.tmod_eq_emod_of_nonneg (by omega)]; omega
        have hpn : p < n := by have := Hk.out; omega
        have hs31 : s ≤ 31 := by omega
        have Hj : Hid (j = 32 * p + s) := Lib.hid (by omega)
        have hjk : j ≤ 68719476736 := by omega
        obtain ⟨b1, off, rfl, hbw, hc⟩ := hs (by omega)
        have bx := lims_getD HXl.out p
        have hbit := bit_of HXl.out (p := p) (s := s) (by rw [Hn.out]; exact hpn) hs31
        obtain ⟨x, hx⟩ : ∃ x, x = xs.getD p 0 := ⟨_, rfl⟩
        have C1 := Lib.hid (hc p hpn)
        rw [← hx] at bx hbit C1
        rw [HA.out, ← Hj.out] at hbit
        obtain ⟨bt, hbt⟩ : ∃ bt, bt = A / 2 ^ j % 2 := ⟨_, rfl⟩
        rw [← hbt] at hbit
        have hb2 : bt < 2 := by omega
        have ha : bits .and .u32 ((x : Int) / 2 ^ s) 1 = (bt : Int) := by
          have h1 := and_one (x / 2 ^ s) (Nat.lt_of_le_of_lt (Nat.div_le_self _ _) bx)
          rw [hbit] at h1
          rw [← h1]; congr 1
        have HDS := Lib.hid (div_step (m := A / 2 ^ (j + 1)) (V := V) (b := bt) H0.out hb2)
        have HBJ := Lib.hid (bit_step A j)
        rw [← hbt] at HBJ
        have HRV : Hid (A / 2 ^ (j + 1) % V < V) := Lib.hid (Nat.mod_lt _ H0.out)
        generalize A / 2 ^ (j + 1) = m at *
        have HszV : Hid (sz V ≤ 2147483648) := Lib.hid (by rw [← HV.out]; exact Nat.le_trans (sz_val HY.out.lims) Hyl.out)
        have Hsz1 : Hid ((limbs (m % V)).length ≤ 4294967296) := Lib.hid (by
          have h1 : sz (m % V) ≤ sz V := sz_mono (Nat.le_of_lt HRV.out)
          have := HszV.out
          unfold sz at *; omega)
        have Hsz2 : Hid ((limbs (m % V * 2)).length ≤ 2147483652) := Lib.hid (by
          have h1 : sz (m % V) ≤ sz V := sz_mono (Nat.le_of_lt HRV.out)
          have h2 := sz_mul (m % V) 2
          have h3 : sz 2 ≤ 1 := sz_le (by decide)
          have := HszV.out
          unfold sz at *; omega)
        have Hsz3 : Hid ((limbs (2 * (m % V) + bt)).length ≤ 2147483656) := Lib.hid (by
          have h2 := sz_add (m % V * 2) bt
          have h3 : sz bt ≤ 1 := sz_le (by omega)
          have := Hsz2.out
          rw [Nat.mul_comm 2]
          unfold sz at *; omega)
        clear hbt hbit hx hc hk Hk hsr hp
        go_wp2_with fail
        refine (rshl_one _ (limbs (m % V)) _ HR.out Hsz1.out).mono ?_
        rintro e w5 ⟨v5, rfl, h5, hb5⟩
        unfold Num at h5
        rw [val_limbs] at h5
        have HB5 := Lib.hid (HBl.out.trans (hb5.mono HBl.out.size))
        have HAr5 := Lib.hid (HAr.out.below hb5 HAr.out.lt)
        have c1 := (HB5.out.cell (p := ⟨b1, off + p, none⟩) hbw).trans C1.out
        have H5 := Lib.hid (h5.below ((Below.refl _ _).alloc (Nat.le_refl _) (.cells #[.int .u32 (bt : Int)] 156)))
        have S1 := sl_one w5 156 (bt : Int) (by omega)
        rw [Int.toNat_natCast] at S1
        have HS1 := Lib.hid S1
        clear S1 h5 hb5
        go_wp2_with fail
        refine (radd_any _ _ _ [bt] _ H5.out HS1.out (by have := Hsz2.out; omega) (by simp)).mono ?_
        rintro e w6 ⟨v6, rfl, h6, hb6⟩
        unfold Num at h6
        rw [val_limbs, show m % V * 2 + val [bt] = 2 * (m % V) + bt by simp only [val]; omega] at h6
        have HB6 := Lib.hid ((HB5.out.alloc HB5.out.size _).trans (hb6.mono (base_alloc HB5.out.size _)))
        have HAr6 := Lib.hid ((HAr5.out.below ((Below.refl _ _).alloc (Nat.le_refl _) _) HAr5.out.lt).below hb6 (by have := HAr5.out.lt; simp; omega))
        have H6 := Lib.hid h6
        have HY6 := Lib.hid (HY.out.below HB6.out)
        clear h6 hb6 c1
        go_wp2_with fail
        refine (rcmp_any _ _ _ _ _ H6.out HY6.out).mono ?_
        rintro e w7 ⟨v7, rfl, h7, hb7⟩
        unfold Val at h7
        subst h7
        rw [val_limbs, HV.out]
        have HB7 := Lib.hid (HB6.out.trans (hb7.mono HB6.out.size))
        have HAr7 := Lib.hid (HAr6.out.below hb7 HAr6.out.lt)
        have H7 := Lib.hid (H6.out.below hb7)
        have HY7 := Lib.hid (HY6.out.below hb7)
        clear hb7
        rcases Nat.lt_or_ge (2 * (m % V) + bt) V with hlt | hge
        · have hcd := cmp_nge hlt
          have HD := Lib.hid (HDS.out.1 hlt)
          have Hlt := Lib.hid hlt
          clear hlt
          generalize cmpN (2 * (m % V) + bt) V = cm at *
          go_wp2
          go_roundw
          case rel =>
            refine ⟨j, qs, hjk, rfl, Lib.hid (by have := Hj.out; omega), Lib.hid ?_, HAr7, Lib.hid ?_, HB7⟩
            · rw [HBJ.out, HD.out.2]; exact H7.out
            · rw [HBJ.out, HD.out.1]; exact bitsInv_even HI.out
          case measure => simp [intOf] <;> omega
        · have hcd := cmp_ge hge
          have HD := Lib.hid (HDS.out.2 hge)
          have Hge := Lib.hid hge
          clear hge
          generalize cmpN (2 * (m % V) + bt) V = cm at *
          go_wp2_with fail
          refine (rsub_anyF _ _ _ _ _ H7.out HY7.out (by have := Hsz3.out; omega)).mono ?_
          rintro e w8 ⟨v8, rfl, ⟨v9, rfl, h9, hf9⟩, hb8⟩
          rw [val_limbs, HV.out] at h9
          have HB8 := Lib.hid (HB7.out.trans (hb8.mono HB7.out.size))
          have HAr8 := Lib.hid (HAr7.out.below hb8 HAr7.out.lt)
          have H9 := Lib.hid h9
          have Hf9 := Lib.hid hf9
          have Hlt7 := Lib.hid HAr7.out.lt
          clear h9 hf9 hb8
          have c3 := HAr8.out.cell p (by rw [HI.out.1]; exact hpn)
          have c4 := HAr8.out.frozen p
          have bu := lims_getD HI.out.2.1 p
          have HIj : Hid (bitsInv n (32 * p + s + 1) (m / V) qs) := Lib.hid (by rw [← Hj.out]; exact HI.out)
          obtain ⟨u, hu⟩ : ∃ u, u = qs.getD p 0 := ⟨_, rfl⟩
          rw [← hu] at c3 bu
          have Hu := Lib.hid hu; clear hu
          have HOr : Hid (bits .or .u32 (u : Int) ((2 : Int) ^ s % 4294967296) = ((qs.getD p 0 + 2 ^ s : Nat) : Int)) := Lib.hid (by
            obtain ⟨mm, hm1, hm2⟩ := bitsInv_limb HIj.out hpn hs31
            have h31 : 2 ^ s ≤ 2 ^ 31 := Nat.pow_le_pow_right (by decide) hs31
            have e31 : 2 ^ 31 = 2147483648 := by decide
            have e1 : (2 : Int) ^ s % 4294967296 = ((2 ^ s : Nat) : Int) := by
              have : ((2 ^ s : Nat) : Int) = (2 : Int) ^ s := by simp
              rw [← this]
              generalize 2 ^ s = P at h31 ⊢
              omega
            have hps : 0 < 2 ^ s := Nat.pow_pos (by decide)
            rw [e1, Hu.out, u32_or_nat _ _ (by omega) (by omega), hm1, Nat.or_comm, Nat.mul_comm, or_low (by rw [Nat.pow_succ]; omega), Nat.add_comm])
          go_wp2_with fail
          go_region
          have HW := Lib.hid ((HB8.out.setCell (p := ⟨w2.heap.size, p, none⟩) (Nat.le_refl _) (.int .u32 (bits .or .u32 (u : Int) ((2 : Int) ^ s % 4294967296)))).drew)
          have HS9 : Hid (Sl (w8.setCell ⟨w2.heap.size, p, none⟩ (.int .u32 (bits .or .u32 (u : Int) ((2 : Int) ^ s % 4294967296)))).drew v9 (limbs (2 * (m % V) + bt - V))) := Lib.hid ((H9.out.older Hf9.out Hlt7.out).drew)
          have HA9 : Hid (Arr (w8.setCell ⟨w2.heap.size, p, none⟩ (.int .u32 (bits .or .u32 (u : Int) ((2 : Int) ^ s % 4294967296)))).drew w2.heap.size (qs.set p (qs.getD p 0 + 2 ^ s))) := Lib.hid (by
            rw [HOr.out]; exact (HAr8.out.set p _).drew)
          clear c3 c4
          go_wp2
          go_roundw
          case rel =>
            refine ⟨j, _, hjk, rfl, Lib.hid (by have := Hj.out; omega), Lib.hid ?_, HA9, Lib.hid ?_, HW⟩
            · rw [HBJ.out, HD.out.2]; exact HS9.out
            · rw [HBJ.out, HD.out.1, Hj.out]; exact bitsInv_odd HIj.out hpn hs31
          case measure => simp [intOf] <;> omega
end Go.Proofs.YtikglhmabidjoaaGreatDoor
namespace Go.Proofs.YtikglhmabidjoaaGreatDoor
open Go.RowKit Nt
theorem uintB_eq (n : Nat) : uintB n = true ↔ n < 18446744073709551616 := by simp [uintB]
theorem rdivmod_any (v v' : Value) (xs ys : List Nat) (w : World) (h : Sl w v xs) (h' : Sl w v' ys) (hxl : xs.length ≤ 2147483648) (hyl : ys.length ≤ 2147483648) :
    Calls Tryz.prog 150 #[v, v'] w (Ret w (Num2E (val xs / val ys) (dmR (val xs) (val ys)) (dmE (val ys)))) := by
  rcases Nat.eq_zero_or_pos (val ys) with h0 | h0
  · have := rdiv_zero v v' xs ys w h h' h0
    rw [h0]
    simpa [dmR, dmE] using this
  · rw [dmR_pos h0, dmE_pos h0]
    by_cases hy : val ys < 18446744073709551616
    · by_cases hx : val xs < 18446744073709551616
      · exact rdiv_small v v' xs ys w h h' h0 hx hy
      · exact rdiv_big v v' xs ys w h h' hxl hyl h0 (Or.inr ⟨(uintB_eq _).2 hy, by simpa [uintB] using hx⟩)
    · exact rdiv_big v v' xs ys w h h' hxl hyl h0 (Or.inl (by simpa [uintB] using hy))
set_option maxHeartbeats 1000000 in
theorem rgcd_any (v v' : Value) (xs ys : List Nat) (w : World) (h : Sl w v xs) (h' : Sl w v' ys) (hx : xs.length ≤ 2147483648) (hy : ys.length ≤ 2147483648) :
    Calls Tryz.prog 149 #[v, v'] w (Ret w (Num (Nat.gcd (val xs) (val ys)))) := by
  have hla := sz_val h.lims
  have hlb := sz_val h'.lims
  go_enter Tryz.func149, Tryz.ntmps149
  go_wp2_with fail
  refine (rmake_any _ xs _ h).mono ?_
  rintro e w1 ⟨v1, rfl, h1, hb1⟩
  have h' := h'.below hb1
  go_wp2_with fail
  refine (rmake_any _ ys _ h').mono ?_
  rintro e w2 ⟨v2, rfl, h2, hb2⟩
  unfold Num at h1 h2
  have H1 := Lib.hid (h1.below hb2)
  have H2 := Lib.hid h2
  have HB0 := Lib.hid (hb1.trans (hb2.mono hb1.size))
  clear h h' h1 h2 hb1 hb2
  obtain ⟨G, hG⟩ : ∃ G, G = Nat.gcd (val xs) (val ys) := ⟨_, rfl⟩
  have H0 : Hid (sz (val xs) ≤ 2147483648 ∧ sz (val ys) ≤ 2147483648) := Lib.hid (by omega)
  generalize val xs = a at *
  generalize val ys = b at *
  have HG := Lib.hid hG; clear hG hla hlb
  go_wp2_with fail
  go_loopw [0, 1] (fun va vb wr => ∃ x y : Nat, Hid (Sl wr va (limbs x)) ∧ Hid (Sl wr vb (limbs y)) ∧ Hid (sz x ≤ 2147483648 ∧ sz y ≤ 2147483648) ∧ Hid (G = Nat.gcd x y) ∧ Hid (Below w.heap.size w wr)) (fun _ vb wr => numOf wr vb)
  case atStart => exact ⟨a, b, H1, H2, H0, HG, HB0⟩
  case round =>
    obtain ⟨x, y, HX, HY, Hs, Hg, Hbl⟩ := hrel
    have HYb := HY
    obtain ⟨ad, n, cap, rfl, hn, -⟩ := HY.out
    have Hn : Hid (sz y = n) := Lib.hid hn
    clear hn HY
    by_cases h2 : 0 < n
    · have Hy0 : Hid (0 < y) := Lib.hid (by
        rcases Nat.eq_zero_or_pos y with h0 | h0
        · have := Hn.out; rw [h0, sz_zero] at this; omega
        · exact h0)
      go_wp2_with fail
      refine (rdivmod_any _ _ (limbs x) (limbs y) _ HX.out HYb.out Hs.out.1 Hs.out.2).mono ?_
      rintro e w2 ⟨v3, rfl, ⟨q, r, rfl, -, hr⟩, hb2⟩
      rw [val_limbs, val_limbs, dmR_pos Hy0.out] at hr
      have HY2 := Lib.hid (HYb.out.below hb2)
      have HR := Lib.hid hr
      have HB := Lib.hid (Hbl.out.trans (hb2.mono Hbl.out.size))
      have HN := Lib.hid (numOf_eq HYb.out)
      clear hr hb2
      go_wp2
      go_roundw
      case rel =>
        exact ⟨y, x % y, HY2, HR, Lib.hid ⟨Hs.out.2, Nat.le_trans (sz_mono (Nat.le_of_lt (Nat.mod_lt x Hy0.out))) Hs.out.2⟩, Lib.hid (by rw [gcd_swap]; exact Hg.out), HB⟩
      case measure =>
        show numOf _ _ < numOf _ _
        rw [numOf_eq HR.out]
        rw [show numOf wr _ = y from HN.out]
        exact Nat.mod_lt x Hy0.out
    · have hy0 : y = 0 := sz_eq_zero.1 (by have := Hn.out; omega)
      subst hy0
      have HG2 : Hid (a.gcd b = x) := Lib.hid (by rw [← HG.out, Hg.out, Nat.gcd_zero_right])
      go_wp2
      go_ret
      exact ⟨_, rfl, by rw [HG2.out]; exact HX.out, Hbl.out⟩
end Go.Proofs.YtikglhmabidjoaaGreatDoor
