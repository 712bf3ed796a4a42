/- Texts Bd Be Bf Bg of this proof, in this order. -/
import Derived.Test.YtikglhmabidjoaaGreatU03
import Derived.Test.YtikglhmabidjoaaGreatU01
import Derived.OneCell
import Derived.Deep.RegionHeld3
import Derived.Deep.MidRow
set_option linter.unusedVariables false
set_option linter.unusedSimpArgs false
set_option maxRecDepth 100000
set_option maxHeartbeats 4000000
namespace Go.Proofs.YtikglhmabidjoaaGreat
open Go.RowKit Nt
theorem rcmp_any (v v' : Value) (xs ys : List Nat) (w : World) (h : Sl w v xs) (h' : Sl w v' ys) :
  Calls Tryz.prog 169 #[v, v'] w (Ret w (Val (.int .i64 (cmpN (val xs) (val ys))))) := by
 have hxl := h.len
 have hyl := h'.len
 have Hx := lH h.lims
 have Hy := lH h'.lims
 have H := lH h
 have H' := lH h'
 obtain ⟨ad, n, cap, rfl, hn, -⟩ := h
 obtain ⟨ad', n', cap', rfl, hn', -⟩ := h'
 have hb : n ≤ 1099511627776 := by omega
 have hb' : n' ≤ 1099511627776 := by omega
 have Hn := lH hn
 have Hn' := lH hn'
 obtain ⟨m, hm⟩ : ∃ m : Nat, m = max n n' := ⟨_, rfl⟩
 have Hm : Hid (xs.length ≤ m ∧ ys.length ≤ m) := lH (by omega)
 have hmb : m ≤ 1099511627776 := by omega
 have hmax : max (n : Int) (n' : Int) = (m : Int) := by omega
 clear hn hn' hxl hyl hm
 go_enter Tryz.func169, Tryz.ntmps169
 go_wp2_with fail
 go_loop [5] (fun i => ∃ k : Nat, k ≤ m ∧ i = .int .i64 ((k : Int) - 1) ∧ Hid (agree xs ys k)) (fun i => (intOf i + 1).toNat)
 case atStart => exact ⟨m, lR_ _, rfl, lH (agree_top Hm.out.1 Hm.out.2)⟩
 case round =>
  obtain ⟨k, hk, rfl, Hs⟩ := hrel
  rcases eP_ k with hk0 | hk0
  ·
   subst hk0
   have HF : Hid (cmpN (val xs) (val ys) = 0) := lH (cmpN_eq (agree_zero Hs.out))
   go_wp2
   go_ret
   refine ⟨_, rfl, ?_, bR_ _ _⟩
   show Value.int _ _ = Value.int _ _
   rw [HF.out]
  ·
   obtain ⟨j, rfl⟩ : ∃ j, k = j + 1 := ⟨k - 1, by omega⟩
   rw [show ((j + 1 : Nat) : Int) - 1 = (j : Int) from by omega]
   obtain ⟨x, hx⟩ : ∃ x, x = xs.getD j 0 := ⟨_, rfl⟩
   obtain ⟨y, hy⟩ : ∃ y, y = ys.getD j 0 := ⟨_, rfl⟩
   have L1 := lH (limb_any _ xs j w H.out (by omega))
   have L2 := lH (limb_any _ ys j w H'.out (by omega))
   rw [← hx] at L1
   rw [← hy] at L2
   have Hx' := lH hx; clear hx
   have Hy' := lH hy; clear hy
   rcases Nat.lt_trichotomy x y with hlt | heq | hgt
   ·
    have HF : Hid (cmpN (val xs) (val ys) = -1) := lH (cmpN_lt (agree_lt Hs.out Hx.out (by rw [← Hx'.out, ← Hy'.out]; exact hlt)))
    go_wp2_with fail
    refine L1.out.mono ?_
    rintro e w' ⟨rfl, rfl⟩
    go_wp2_with fail
    refine L2.out.mono ?_
    rintro e w' ⟨rfl, rfl⟩
    go_wp2
    go_ret
    refine ⟨_, rfl, ?_, bR_ _ _⟩
    show Value.int _ _ = Value.int _ _
    rw [HF.out]
   ·
    subst heq
    have HA := lH (agree_step Hs.out (by rw [← Hx'.out, ← Hy'.out]))
    go_wp2_with fail
    refine L1.out.mono ?_
    rintro e w' ⟨rfl, rfl⟩
    go_wp2_with fail
    refine L2.out.mono ?_
    rintro e w' ⟨rfl, rfl⟩
    go_wp2_with fail
    refine L1.out.mono ?_
    rintro e w' ⟨rfl, rfl⟩
    go_wp2_with fail
    refine L2.out.mono ?_
    rintro e w' ⟨rfl, rfl⟩
    go_wp2
    go_round
    case rel => exact ⟨j, by omega, by go_num, HA⟩
    case measure => simp [intOf] <;> omega
   ·
    have HF : Hid (cmpN (val xs) (val ys) = 1) := lH (cmpN_gt (agree_gt Hs.out Hy.out (by rw [← Hx'.out, ← Hy'.out]; exact hgt)))
    go_wp2_with fail
    refine L1.out.mono ?_
    rintro e w' ⟨rfl, rfl⟩
    go_wp2_with fail
    refine L2.out.mono ?_
    rintro e w' ⟨rfl, rfl⟩
    go_wp2_with fail
    refine L1.out.mono ?_
    rintro e w' ⟨rfl, rfl⟩
    go_wp2_with fail
    refine L2.out.mono ?_
    rintro e w' ⟨rfl, rfl⟩
    go_wp2
    go_ret
    refine ⟨_, rfl, ?_, bR_ _ _⟩
    show Value.int _ _ = Value.int _ _
    rw [HF.out]
def raddInv (k c : Nat) (os xs ys : List Nat) : Prop := os.length = k ∧ lims os ∧ c ≤ 1 ∧ val os + 4294967296 ^ k * c = val (xs.take k) + val (ys.take k)
theorem raddInv_zero (xs ys : List Nat) : raddInv 0 0 [] xs ys := ⟨rfl, lims_nil, by decide, by simp [val]⟩
theorem raddInv_step {k c : Nat} {os xs ys : List Nat} (h : raddInv k c os xs ys) (hx : lims xs) (hy : lims ys) (z : Int) (hz : z = (c : Int) + ((xs.getD k 0 : Nat) + (ys.getD k 0 : Nat))) :
  raddInv (k + 1) (z / 4294967296).toNat (os ++ [(z % 4294967296).toNat]) xs ys := by
 obtain ⟨h1, h2, h3, h4⟩ := h
 have b1 := lims_getD hx k
 have b2 := lims_getD hy k
 refine ⟨by simp [h1], lims_append h2 (lims_cons (by omega) lims_nil), by omega, ?_⟩
 rw [val_snoc, h1, val_take_step xs, val_take_step ys, Nat.pow_succ]
 have := add_step (o := val os) (x := val (xs.take k) + val (ys.take k)) (y := xs.getD k 0 + ys.getD k 0) (p := 4294967296 ^ k) (c := c) (d := (z % 4294967296).toNat) (o' := (z / 4294967296).toNat) h4 (by omega)
 rw [this, Nat.mul_add]; omega
theorem raddInv_end {k c : Nat} {os xs ys : List Nat} (h : raddInv k c os xs ys) (hx : xs.length ≤ k) (hy : ys.length ≤ k) : lims (os ++ [c]) ∧ (os ++ [c]).length = k + 1 ∧ val (os ++ [c]) = val xs + val ys := by
 obtain ⟨h1, h2, h3, h4⟩ := h
 refine ⟨lims_append h2 (lims_cons (by omega) lims_nil), by simp [h1], ?_⟩
 rw [val_snoc, h1, h4, val_take_ge hx, val_take_ge hy]
theorem radd_any (v v' : Value) (xs ys : List Nat) (w : World) (h : Sl w v xs) (h' : Sl w v' ys) (hxl : xs.length ≤ 4294967296) (hyl : ys.length ≤ 4294967296) :
  Calls Tryz.prog 168 #[v, v'] w (Ret w (Num (val xs + val ys))) := by
 have Hx := lH h.lims
 have Hy := lH h'.lims
 have H := lH h
 have H' := lH h'
 obtain ⟨ad, n, cap, rfl, hn, -⟩ := h
 obtain ⟨ad', n', cap', rfl, hn', -⟩ := h'
 have hb : n ≤ 4294967296 := by omega
 have hb' : n' ≤ 4294967296 := by omega
 have Hn := lH hn
 have Hn' := lH hn'
 clear hn hn' hxl hyl
 go_enter Tryz.func168, Tryz.ntmps168
 go_wp2_with fail
 go_loopw [5, 6, 7] (fun o cy i wr => ∃ (k c : Nat) (os : List Nat), k ≤ 4294967296 ∧ i = .int .i64 (k : Int) ∧ cy = .int .u64 (c : Int) ∧ Hid (OwnU wr w.heap.size 142 o os) ∧ Hid (raddInv k c os xs ys) ∧ Hid (Below w.heap.size w wr)) (fun _ _ i _ => 4294967296 - (intOf i).toNat)
 case atStart => exact ⟨0, 0, [], by omega, rfl, rfl, lH (OwnU.nil _ _ _), lH (raddInv_zero _ _), lH (bR_ _ _)⟩
 case round =>
  obtain ⟨k, c, os, hk, rfl, rfl, HO, Hs, Hbl⟩ := hrel
  have hc1 := Hs.out.2.2.1
  obtain ⟨x, hx⟩ : ∃ x, x = xs.getD k 0 := ⟨_, rfl⟩
  obtain ⟨y, hy⟩ : ∃ y, y = ys.getD k 0 := ⟨_, rfl⟩
  have bx := lims_getD Hx.out k
  have by' := lims_getD Hy.out k
  have L1 := lH (limb_any _ xs k _ (H.out.below Hbl.out) (by omega))
  have L2 := lH (limb_any _ ys k _ (H'.out.below Hbl.out) (by omega))
  rw [← hx] at L1 bx
  rw [← hy] at L2 by'
  have Hx' := lH hx; clear hx
  have Hy' := lH hy; clear hy
  have Hosl : Hid (os.length ≤ 1099511627776) := lH (by have := Hs.out.1; omega)
  by_cases hkn : k < n ∨ k < n'
  ·
   have hk4 : k < 4294967296 := by omega
   by_cases hkn1 : k < n
   ·
    clear hkn
    go_wp2_with fail
    refine L1.out.mono ?_
    rintro e w' ⟨rfl, rfl⟩
    go_wp2_with fail
    refine L2.out.mono ?_
    rintro e w' ⟨rfl, rfl⟩
    go_wp2_with (at_builtin; refine wpList_push_u32 _ rfl _ _ _ _ rfl 142 Tryz.underlying34 Tryz.underlying34 Tryz.infoU32 w.heap.size _ os rfl (HO.out.below ((bR_ _ _).alloc (lR_ _) _) (lR_ _)) _ 1 (((c : Int) + ((x : Int) + (y : Int))) % 4294967296) rfl (by simp) (by omega) Hosl.out (by have := Hbl.out.size; simp; omega) ?_; intro v3 w3 h3 hb3)
    go_wp2
    go_roundw
    case rel =>
     exact ⟨k + 1, _, _, by omega, by go_num, congrArg (Value.int .u64) (Int.toNat_of_nonneg (by omega)).symm, lH h3, lH (raddInv_step Hs.out Hx.out Hy.out _ (by rw [← Hx'.out, ← Hy'.out])), lH ((Hbl.out.alloc Hbl.out.size _).trans hb3)⟩
    case measure => simp [intOf] <;> omega
   ·
    have hkn2 : k < n' := by omega
    clear hkn
    go_wp2_with fail
    refine L1.out.mono ?_
    rintro e w' ⟨rfl, rfl⟩
    go_wp2_with fail
    refine L2.out.mono ?_
    rintro e w' ⟨rfl, rfl⟩
    go_wp2_with (at_builtin; refine wpList_push_u32 _ rfl _ _ _ _ rfl 142 Tryz.underlying34 Tryz.underlying34 Tryz.infoU32 w.heap.size _ os rfl (HO.out.below ((bR_ _ _).alloc (lR_ _) _) (lR_ _)) _ 1 (((c : Int) + ((x : Int) + (y : Int))) % 4294967296) rfl (by simp) (by omega) Hosl.out (by have := Hbl.out.size; simp; omega) ?_; intro v3 w3 h3 hb3)
    go_wp2
    go_roundw
    case rel =>
     exact ⟨k + 1, _, _, by omega, by go_num, congrArg (Value.int .u64) (Int.toNat_of_nonneg (by omega)).symm, lH h3, lH (raddInv_step Hs.out Hx.out Hy.out _ (by rw [← Hx'.out, ← Hy'.out])), lH ((Hbl.out.alloc Hbl.out.size _).trans hb3)⟩
    case measure => simp [intOf] <;> omega
  ·
   have hk1 : ¬ k < n := by omega
   have hk2 : ¬ k < n' := by omega
   have HE := lH (raddInv_end Hs.out (by have := Hn.out; omega) (by have := Hn'.out; omega))
   clear hkn L1 L2
   go_wp2_with (at_builtin; refine wpList_push_u32 _ rfl _ _ _ _ rfl 142 Tryz.underlying34 Tryz.underlying34 Tryz.infoU32 w.heap.size _ os rfl (HO.out.below ((bR_ _ _).alloc (lR_ _) _) (lR_ _)) _ 1 ((c : Int)) rfl (by simp) (by omega) Hosl.out (by have := Hbl.out.size; simp; omega) ?_; intro v3 w3 h3 hb3)
   rw [Int.toNat_natCast] at h3
   have HB := lH ((Hbl.out.alloc Hbl.out.size _).trans hb3)
   clear hb3
   go_wp2_with fail
   refine (rmake_any _ _ _ (h3.sl HE.out.1 (by rw [HE.out.2.1]; omega))).mono ?_
   rintro e w4 ⟨v4, rfl, h4, hb4⟩
   rw [HE.out.2.2] at h4
   have HB2 := HB.out.trans (hb4.mono HB.out.size)
   clear hb4
   go_wp2
   go_ret
   exact ⟨_, rfl, h4, HB2⟩
def rsubInv (k c : Nat) (os xs ys : List Nat) : Prop := os.length = k ∧ lims os ∧ c ≤ 1 ∧ val os + val (ys.take k) = val (xs.take k) + 4294967296 ^ k * c
theorem rsubInv_zero (xs ys : List Nat) : rsubInv 0 0 [] xs ys := ⟨rfl, lims_nil, by decide, by simp [val]⟩
theorem rsubInv_step {k c o d : Nat} {os xs ys : List Nat} (h : rsubInv k c os xs ys) (hx : lims xs) (hy : lims ys) (hd : d + ys.getD k 0 + c = xs.getD k 0 + 4294967296 * o) (hd1 : d < 4294967296) :
  rsubInv (k + 1) o (os ++ [d]) xs ys := by
 obtain ⟨h1, h2, h3, h4⟩ := h
 have b1 := lims_getD hx k
 have b2 := lims_getD hy k
 refine ⟨by simp [h1], lims_append h2 (lims_cons hd1 lims_nil), by omega, ?_⟩
 rw [val_snoc, h1, val_take_step xs, val_take_step ys, Nat.pow_succ]
 have e : 4294967296 ^ k * (d + ys.getD k 0 + c) = 4294967296 ^ k * (xs.getD k 0 + 4294967296 * o) := by rw [hd]
 rw [Nat.mul_add, Nat.mul_add, Nat.mul_add, ← Nat.mul_assoc] at e
 omega
theorem rsubInv_end {n c : Nat} {os xs ys : List Nat} (h : rsubInv n c os xs ys) (hx : lims xs) (hn : xs.length = n) (hle : val ys ≤ val xs) : lims os ∧ os.length = n ∧ val os = val xs - val ys := by
 obtain ⟨h1, h2, h3, h4⟩ := h
 refine ⟨h2, h1, ?_⟩
 have hxl := val_lt hx
 rw [hn] at hxl
 have hyt : val (ys.take n) = val ys := by
  rcases Nat.lt_or_ge n ys.length with hlt | hge
  ·
   have e := val_take_drop ys n (by omega)
   have : val (ys.drop n) = 0 := by
    rcases eP_ (val (ys.drop n)) with h0 | h0
    ·
     exact h0
    ·
     have : 4294967296 ^ n * 1 ≤ 4294967296 ^ n * val (ys.drop n) := Nat.mul_le_mul_left _ h0
     omega
   rw [this] at e; omega
  ·
   exact val_take_ge hge
 rw [hyt, val_take_ge (xs := xs) (by omega)] at h4
 have := val_lt h2
 rw [h1] at this
 have hc : c = 0 := by
  rcases eP_ c with h | h
  ·
   exact h
  ·
   have : c = 1 := by omega
   subst this; omega
 subst hc; omega
def NumEF (B n : Nat) (err : Int) (w : World) (v : Value) : Prop := ∃ a, v = .tuple #[a, .int .i64 err] ∧ Sl w a (limbs n) ∧ FreshS B a
theorem rsub_noF (v v' : Value) (xs ys : List Nat) (w : World) (h : Sl w v xs) (h' : Sl w v' ys) (hlt : val xs < val ys) :
  Calls Tryz.prog 170 #[v, v'] w (Ret w (NumEF w.heap.size 0 2)) := by
 go_enter Tryz.func170, Tryz.ntmps170
 go_wp2_with fail
 refine (rcmp_any _ _ _ _ _ h h').mono ?_
 rintro e wc ⟨v3, rfl, h3, hbc⟩
 unfold Val at h3
 subst h3
 rw [cmpN_lt hlt]
 clear hlt
 go_wp2
 go_ret2
 exact ⟨_, rfl, ⟨_, rfl, by rw [limbs_zero]; exact Sl.nil _, FreshS.nil _⟩, hbc⟩
theorem rsub_yesF (v v' : Value) (xs ys : List Nat) (w : World) (h : Sl w v xs) (h' : Sl w v' ys) (hxl : xs.length ≤ 4294967296) (hle : val ys ≤ val xs) :
  Calls Tryz.prog 170 #[v, v'] w (Ret w (NumEF w.heap.size (val xs - val ys) 0)) := by
 have hcd := cmp_not_neg hle
 have Hle := lH hle; clear hle
 have Hx := lH h.lims
 have Hy := lH h'.lims
 have H := lH h
 have H' := lH h'
 obtain ⟨ad, n, cap, rfl, hn, -⟩ := h
 have hb : n ≤ 4294967296 := by omega
 have Hn := lH hn
 clear hn hxl h'
 go_enter Tryz.func170, Tryz.ntmps170
 go_wp2_with fail
 refine (rcmp_any _ _ _ _ _ H.out H'.out).mono ?_
 rintro e wc ⟨v3, rfl, h3, hbc⟩
 unfold Val at h3
 subst h3
 generalize cmpN (val xs) (val ys) = cm at *
 have Hbc := lH hbc; clear hbc
 have Hc := lH (H.out.below Hbc.out)
 have Hc' := lH (H'.out.below Hbc.out)
 go_wp2_with fail
 go_loopw [6, 7, 8, 9, 10] (fun o bo i _ _ wr => ∃ (k c : Nat) (os : List Nat), k ≤ n ∧ i = .int .i64 (k : Int) ∧ bo = .int .u64 (c : Int) ∧ Hid (OwnU wr wc.heap.size 142 o os) ∧ Hid (rsubInv k c os xs ys) ∧ Hid (Below wc.heap.size wc wr)) (fun _ _ i _ _ _ => n - (intOf i).toNat)
 case atStart => exact ⟨0, 0, [], by omega, rfl, rfl, lH (OwnU.nil _ _ _), lH (rsubInv_zero _ _), lH (bR_ _ _)⟩
 case round =>
  obtain ⟨k, c, os, hk, rfl, rfl, HO, Hs, Hbl⟩ := hrel
  have hc1 := Hs.out.2.2.1
  have Hosl : Hid (os.length ≤ 1099511627776) := lH (by have := Hs.out.1; omega)
  by_cases hkn : k < n
  ·
   obtain ⟨x, hx⟩ : ∃ x, x = xs.getD k 0 := ⟨_, rfl⟩
   obtain ⟨y, hy⟩ : ∃ y, y = ys.getD k 0 := ⟨_, rfl⟩
   have bx := lims_getD Hx.out k
   have by' := lims_getD Hy.out k
   have L1 := lH (limb_any _ xs k _ (Hc.out.below Hbl.out) (by omega))
   have L2 := lH (limb_any _ ys k _ (Hc'.out.below Hbl.out) (by omega))
   rw [← hx] at L1 bx
   rw [← hy] at L2 by'
   have Hx' := lH hx; clear hx
   have Hy' := lH hy; clear hy
   by_cases hlt : x < y + c
   ·
    have Hlt := lH hlt
    go_wp2_with fail
    refine L1.out.mono ?_
    rintro e w' ⟨rfl, rfl⟩
    go_wp2_with fail
    refine L2.out.mono ?_
    rintro e w' ⟨rfl, rfl⟩
    go_wp2_with (at_builtin; refine wpList_push_u32 _ rfl _ _ _ _ rfl 142 Tryz.underlying34 Tryz.underlying34 Tryz.infoU32 wc.heap.size _ os rfl (HO.out.below ((bR_ _ _).alloc (lR_ _) _) (lR_ _)) _ 1 ((x : Int) + 4294967296 - ((y : Int) + (c : Int))) rfl (by simp) (by omega) Hosl.out (by have := Hbl.out.size; simp; omega) ?_; intro v3 w3 h3 hb3)
    go_wp2
    go_roundw
    case rel =>
     exact ⟨k + 1, 1, _, by omega, by go_num, rfl, lH h3, lH (rsubInv_step Hs.out Hx.out Hy.out (by rw [← Hx'.out, ← Hy'.out]; omega) (by omega)), lH ((Hbl.out.alloc Hbl.out.size _).trans hb3)⟩
    case measure => simp [intOf] <;> omega
   ·
    have hge : y + c ≤ x := by omega
    go_wp2_with fail
    refine L1.out.mono ?_
    rintro e w' ⟨rfl, rfl⟩
    go_wp2_with fail
    refine L2.out.mono ?_
    rintro e w' ⟨rfl, rfl⟩
    go_wp2_with (at_builtin; refine wpList_push_u32 _ rfl _ _ _ _ rfl 142 Tryz.underlying34 Tryz.underlying34 Tryz.infoU32 wc.heap.size _ os rfl (HO.out.below ((bR_ _ _).alloc (lR_ _) _) (lR_ _)) _ 1 ((x : Int) - ((y : Int) + (c : Int))) rfl (by simp) (by omega) Hosl.out (by have := Hbl.out.size; simp; omega) ?_; intro v3 w3 h3 hb3)
    go_wp2
    go_roundw
    case rel =>
     exact ⟨k + 1, 0, _, by omega, by go_num, rfl, lH h3, lH (rsubInv_step Hs.out Hx.out Hy.out (by rw [← Hx'.out, ← Hy'.out]; omega) (by omega)), lH ((Hbl.out.alloc Hbl.out.size _).trans hb3)⟩
    case measure => simp [intOf] <;> omega
  ·
   obtain rfl : k = n := by omega
   have HE := lH (rsubInv_end Hs.out Hx.out Hn.out Hle.out)
   go_wp2_with fail
   refine (rmake_anyF _ _ _ (HO.out.sl HE.out.1 Hosl.out)).mono ?_
   rintro e w4 ⟨v4, rfl, ⟨h4, hf4⟩, hb4⟩
   rw [HE.out.2.2] at h4
   have hf5 := hf4.mono (tL_ Hbc.out.size Hbl.out.size)
   clear hf4
   have HB2 := Hbc.out.trans ((Hbl.out.trans (hb4.mono Hbl.out.size)).mono Hbc.out.size)
   clear hb4
   go_wp2
   go_ret2
   exact ⟨_, rfl, ⟨_, rfl, h4, hf5⟩, HB2⟩
theorem rsub_anyF (v v' : Value) (xs ys : List Nat) (w : World) (h : Sl w v xs) (h' : Sl w v' ys) (hx : xs.length ≤ 4294967296) :
  Calls Tryz.prog 170 #[v, v'] w (Ret w (NumEF w.heap.size (val xs - val ys) (subErr (val xs) (val ys)))) := by
 rcases Nat.lt_or_ge (val xs) (val ys) with hlt | hle
 ·
  rw [subErr_lt hlt, show val xs - val ys = 0 by omega]
  exact rsub_noF v v' xs ys w h h' hlt
 ·
  rw [subErr_le hle]
  exact rsub_yesF v v' xs ys w h h' hx hle
theorem rsub_any (v v' : Value) (xs ys : List Nat) (w : World) (h : Sl w v xs) (h' : Sl w v' ys) (hx : xs.length ≤ 4294967296) :
  Calls Tryz.prog 170 #[v, v'] w (Ret w (NumE (val xs - val ys) (subErr (val xs) (val ys)))) :=
 (rsub_anyF v v' xs ys w h h' hx).mono fun _ _ ⟨u, h1, ⟨a, h2, h3, _⟩, h4⟩ => ⟨u, h1, ⟨a, h2, h3⟩, h4⟩
theorem limb_q (v : Value) (xs : List Nat) (i : Nat) (w : World) (h : Sl w v xs) (hi : i ≤ 1099511627780) (n : Nat) :
  Calls Tryz.prog 178 #[v, .int .i64 (i : Int)] (w.drewN n) fun e w' => e = .returned (.int .u32 ((xs.getD i 0 : Nat) : Int)) ∧ w' = w.drewN n :=
 (limb_any v xs i (w.drewN n) (h.below (below_drewN (bR_ _ _) n)) hi).mono fun _ _ h => ⟨h.1, h.2.symm⟩
theorem rmul_any (v v' : Value) (xs ys : List Nat) (w : World) (h : Sl w v xs) (h' : Sl w v' ys) (hxl : xs.length ≤ 4294967296) (hyl : ys.length ≤ 4294967296) :
  Calls Tryz.prog 138 #[v, v'] w (Ret w (Num (val xs * val ys))) := by
 have Hx := lH h.lims
 have Hy := lH h'.lims
 have H' := lH h'
 obtain ⟨ad, n, cap, rfl, hn, -, -, -, hs⟩ := h
 obtain ⟨ad', m, cap', rfl, hm, -⟩ := h'
 have hb : n ≤ 4294967296 := by omega
 have hb' : m ≤ 4294967296 := by omega
 have Hn := lH hn
 have Hm := lH hm
 clear hn hm hxl hyl
 go_enter Tryz.func138, Tryz.ntmps138
 go_wp2_with (at_make; refine wpList_make_u32 _ rfl _ _ _ rfl 142 Tryz.underlying34 Tryz.infoU32 _ (n + (m + 1)) rfl rfl (by omega) (by omega) ?_; intro w0 hA0 hb0 _)
 go_wp2
 go_loopw [6, 7, 8] (fun i _ _ wr => ∃ k os, k ≤ n ∧ i = .int .i64 ((k : Nat) : Int) ∧ Arr wr w.heap.size os ∧ Hid (mulOut n (m + 1) k os xs ys) ∧ Hid (Below w.heap.size w wr)) (fun i _ _ _ => n - (intOf i).toNat)
 case atStart => exact ⟨0, _, zL_ _, rfl, hA0, lH (mulOut_zero _ _ _ _), lH hb0⟩
 case round =>
  obtain ⟨i, os, hi, rfl, hA, Hs, Hbl⟩ := hrel
  by_cases hin : i < n
  ·
   obtain ⟨b1, off, rfl, hbw, hc⟩ := hs (by omega)
   have C1 := lH (hc i hin)
   have bx := lims_getD Hx.out i
   obtain ⟨x, hx⟩ : ∃ x, x = xs.getD i 0 := ⟨_, rfl⟩
   rw [← hx] at bx C1
   have Hx' := lH hx; clear hx hc hs
   obtain ⟨wo, rfl⟩ : ∃ wo : World, wo = wr := ⟨_, rfl⟩
   go_wp2
   go_loopw [7, 8] (fun cy j wr => ∃ k c os, k ≤ m + 1 ∧ j = .int .i64 ((k : Nat) : Int) ∧ cy = .int .u64 ((c : Nat) : Int) ∧ Arr wr w.heap.size os ∧ Hid (mulIn n (m + 1) i k c os xs ys) ∧ Hid (Below w.heap.size w wr)) (fun _ j _ => m + 1 - (intOf j).toNat)
   case atStart => exact ⟨0, 0, os, zL_ _, rfl, rfl, hA, lH (mulIn_zero Hs.out), Hbl⟩
   case round =>
    clear hA Hs Hbl
    obtain ⟨k, c, os, hk, rfl, rfl, hA, Hs, Hbl⟩ := hrel
    have ⟨hol, hos, _, hcb, _⟩ := Hs.out
    have Ol := lH hol; clear hol
    by_cases hkm : k ≤ m
    ·
     have by' := lims_getD Hy.out k
     have bo := lims_getD hos (i + k)
     obtain ⟨y, hy⟩ : ∃ y, y = ys.getD k 0 := ⟨_, rfl⟩
     obtain ⟨u, hu⟩ : ∃ u, u = os.getD (i + k) 0 := ⟨_, rfl⟩
     have c1 := (Hbl.out.cell (p := ⟨b1, off + i, none⟩) hbw).trans C1.out
     have c3 := hA.cell (i + k) (by rw [Ol.out]; omega)
     have c4 := hA.frozen (i + k)
     have L2 := lH (limb_q _ ys k _ (H'.out.below Hbl.out) (by omega))
     rw [← hy] at by' L2
     rw [← hu] at bo c3
     have Hy' := lH hy; clear hy
     have Hu := lH hu; clear hu
     have hxy := mul_bound bx by'
     clear hos
     go_wp2_with fail
     go_quiet ((go_at_call 178; exact Calls.quiet_of_same (L2.out _)))
     go_wp2
     go_roundw
     case rel =>
      exact ⟨k + 1, _, _, by omega, by go_num, congrArg (Value.int .u64) (Int.toNat_of_nonneg (by omega)).symm, hA.drewN.setI (i + k) _ (by omega), lH (mulIn_stepI Hs.out (by omega) hin Hx'.out Hy'.out Hu.out Hx.out Hy.out _ rfl), lH ((below_drewN Hbl.out _).setCell (lR_ _) _)⟩
     case measure => simp [intOf] <;> omega
    ·
     obtain rfl : k = m + 1 := by omega
     have hD := mulIn_done Hs.out Hx.out Hy.out (by have := Hm.out; omega)
     obtain ⟨hc0, hO⟩ := hD
     subst hc0
     have HO := lH hO; clear hO hos
     go_wp2
     go_roundw
     case rel => exact ⟨i + 1, _, by omega, by go_num, hA, HO, Hbl⟩
     case measure => simp [intOf] <;> omega
  ·
   obtain rfl : i = n := by omega
   have HE := lH (mulOut_end Hs.out (by have := Hn.out; omega))
   go_wp2_with fail
   refine (rmake_any _ _ _ (hA.sl (n := i + (m + 1)) HE.out.1 HE.out.2.1 (lR_ _) (by omega))).mono ?_
   rintro e w4 ⟨v1, rfl, h1, hb4⟩
   rw [HE.out.2.2] at h1
   have HB := Hbl.out.trans (hb4.mono Hbl.out.size)
   clear hb4
   go_wp2
   go_ret
   exact ⟨_, rfl, h1, HB⟩
def rshlInv (q r k c : Nat) (os xs : List Nat) : Prop := os.length = q + k ∧ lims os ∧ c < 2 ^ r ∧ val os + 4294967296 ^ (q + k) * c = 4294967296 ^ q * (2 ^ r * val (xs.take k))
theorem rshlInv_zero (q r : Nat) (xs : List Nat) : rshlInv q r 0 0 (List.replicate q 0) xs :=
 ⟨by simp, lims_replicate _, Nat.pow_pos (by decide), by simp [val, val_replicate]⟩
theorem rshlInv_step {q r k c x : Nat} {os xs : List Nat} (h : rshlInv q r k c os xs) (hx : lims xs) (he : x = xs.getD k 0) :
  rshlInv q r (k + 1) ((c + x * 2 ^ r) / 4294967296) (os ++ [(c + x * 2 ^ r) % 4294967296]) xs := by
 obtain ⟨h1, h2, h3, h4⟩ := h
 have bx := lims_getD hx k
 rw [← he] at bx
 refine ⟨by simp [h1]; omega, lims_append h2 (lims_cons (by omega) lims_nil), ?_, ?_⟩
 ·
  apply Nat.div_lt_of_lt_mul
  have h5 : (x + 1) * 2 ^ r ≤ 4294967296 * 2 ^ r := Nat.mul_le_mul_right _ bx
  rw [Nat.add_mul] at h5; omega
 ·
  rw [val_snoc, h1, val_take_step xs, ← he]
  have e1 : 4294967296 ^ q * (2 ^ r * (val (xs.take k) + 4294967296 ^ k * x)) = 4294967296 ^ q * (2 ^ r * val (xs.take k)) + 4294967296 ^ (q + k) * (x * 2 ^ r) := by
   rw [Nat.pow_add]; grind
  have e2 : 4294967296 ^ (q + (k + 1)) * ((c + x * 2 ^ r) / 4294967296) = 4294967296 ^ (q + k) * (4294967296 * ((c + x * 2 ^ r) / 4294967296)) := by
   rw [← Nat.add_assoc, Nat.pow_succ, Nat.mul_assoc]
  have e3 : 4294967296 ^ (q + k) * ((c + x * 2 ^ r) % 4294967296) + 4294967296 ^ (q + k) * (4294967296 * ((c + x * 2 ^ r) / 4294967296)) = 4294967296 ^ (q + k) * c + 4294967296 ^ (q + k) * (x * 2 ^ r) := by
   rw [← Nat.mul_add, ← Nat.mul_add]; congr 1; omega
  rw [e1, e2]; omega
theorem rshlInv_end {q r n c K : Nat} {os xs : List Nat} (h : rshlInv q r n c os xs) (hr : r ≤ 31) (hn : xs.length ≤ n) (hK : K = 32 * q + r) : lims (os ++ [c]) ∧ (os ++ [c]).length = q + n + 1 ∧ val (os ++ [c]) = val xs * 2 ^ K := by
 obtain ⟨h1, h2, h3, h4⟩ := h
 have h31 : 2 ^ r ≤ 2 ^ 31 := Nat.pow_le_pow_right (by decide) hr
 have e31 : 2 ^ 31 = 2147483648 := by decide
 refine ⟨lims_append h2 (lims_cons (by omega) lims_nil), by simp [h1], ?_⟩
 rw [val_snoc, h1, h4, val_take_ge hn, hK, Nat.pow_add, Nat.pow_mul]
 have e32 : (2 : Nat) ^ 32 = 4294967296 := by decide
 rw [e32]; grind
theorem or_shl {c x r : Nat} (hc : c < 2 ^ r) (hx : x < 4294967296) (hr : r ≤ 31) : bits .or .u64 (c : Int) (IntKind.u64.wrap ((x : Int) * 2 ^ r)) = ((c + x * 2 ^ r : Nat) : Int) ∧ c + x * 2 ^ r < 18446744073709551616 := by
 have h31 : 2 ^ r ≤ 2 ^ 31 := Nat.pow_le_pow_right (by decide) hr
 have e31 : 2 ^ 31 = 2147483648 := by decide
 have h2 : x * 2 ^ r ≤ 4294967295 * 2 ^ 31 := Nat.mul_le_mul (by omega) h31
 rw [wrap_shl hx (by omega), u64_or_nat _ _ (by omega) (shl_bound hx (by omega)), or_low hc]
 exact ⟨rfl, by omega⟩
theorem rshl_any (v : Value) (xs : List Nat) (K : Nat) (w : World) (h : Sl w v xs) (hxl : xs.length ≤ 4294967296) (hK : K ≤ 1048576) :
  Calls Tryz.prog 167 #[v, .int .i64 (K : Int)] w (Ret w (Num (val xs * 2 ^ K))) := by
 have Hx := lH h.lims
 obtain ⟨ad, n, cap, rfl, hn, -, -, -, hs⟩ := h
 have hb : n ≤ 4294967296 := by omega
 have Hn := lH hn
 obtain ⟨q, hq⟩ : ∃ q, q = K / 32 := ⟨_, rfl⟩
 obtain ⟨r, hr⟩ : ∃ r, r = K % 32 := ⟨_, rfl⟩
 have e1 : ((K : Int) / 32) = (q : Int) := by omega
 have e2 : ((K : Int) % 32) = (r : Int) := by omega
 have hqk : q ≤ 32768 := by omega
 have hr31 : r ≤ 31 := by omega
 have HK2 : Hid (K = 32 * q + r) := lH (by omega)
 clear hn hxl hq hr
 go_enter Tryz.func167, Tryz.ntmps167
 go_wp2_with (at_make; refine wpList_makeown_u32 _ rfl _ _ _ rfl 142 Tryz.underlying34 Tryz.infoU32 _ q rfl rfl (by omega) (by omega) ?_; intro w0 v0 h0 hb0)
 go_wp2_with fail
 go_loopw [5, 6, 7] (fun o cy i wr => ∃ (k c : Nat) (os : List Nat), k ≤ n ∧ i = .int .i64 (k : Int) ∧ cy = .int .u64 (c : Int) ∧ Hid (OwnU wr w.heap.size 142 o os) ∧ Hid (rshlInv q r k c os xs) ∧ Hid (Below w.heap.size w wr)) (fun _ _ i _ => n - (intOf i).toNat)
 case atStart => exact ⟨0, 0, _, by omega, rfl, rfl, lH h0, lH (rshlInv_zero _ _ _), lH hb0⟩
 case round =>
  obtain ⟨k, c, os, hk, rfl, rfl, HO, Hs, Hbl⟩ := hrel
  have Hosl : Hid (os.length ≤ 1099511627776) := lH (by have := Hs.out.1; omega)
  have Hc : Hid (c < 2147483648) := lH (by
   have h1 := Hs.out.2.2.1
   have h31 : 2 ^ r ≤ 2 ^ 31 := Nat.pow_le_pow_right (by decide) hr31
   have e31 : 2 ^ 31 = 2147483648 := by decide
   omega)
  by_cases hkn : k < n
  ·
   obtain ⟨b1, off, rfl, hbw, hc⟩ := hs (by omega)
   have c1 := (Hbl.out.cell (p := ⟨b1, off + k, none⟩) hbw).trans (hc k hkn)
   obtain ⟨x, hx⟩ : ∃ x, x = xs.getD k 0 := ⟨_, rfl⟩
   have bx := lims_getD Hx.out k
   rw [← hx] at c1 bx
   have Hx' := lH hx; clear hx hc hs
   have hO := or_shl Hs.out.2.2.1 bx hr31
   have HST := lH (rshlInv_step Hs.out Hx.out Hx'.out)
   obtain ⟨Z, hZ⟩ : ∃ Z, Z = c + x * 2 ^ r := ⟨_, rfl⟩
   rw [← hZ] at hO HST
   obtain ⟨hO1, hO2⟩ := hO
   clear hZ
   go_wp2_with (at_builtin; refine wpList_push_u32 _ rfl _ _ _ _ rfl 142 Tryz.underlying34 Tryz.underlying34 Tryz.infoU32 w.heap.size _ os rfl (HO.out.below ((bR_ _ _).alloc (lR_ _) _) (lR_ _)) _ 1 ((Z : Int) % 4294967296) rfl (by simp) (by omega) Hosl.out (by have := Hbl.out.size; simp; omega) ?_; intro v3 w3 h3 hb3)
   go_wp2
   go_roundw
   case rel =>
    exact ⟨k + 1, _, _, by omega, by go_num, congrArg (Value.int .u64) (Int.natCast_ediv Z 4294967296).symm, lH h3, lH (by rw [show ((Z : Int) % 4294967296).toNat = Z % 4294967296 by omega]; exact HST.out), lH ((Hbl.out.alloc Hbl.out.size _).trans hb3)⟩
   case measure => simp [intOf] <;> omega
  ·
   obtain rfl : k = n := by omega
   have HE := lH (rshlInv_end Hs.out hr31 (by have := Hn.out; omega) HK2.out)
   have hcb := Hc.out
   clear hs
   go_wp2_with (at_builtin; refine wpList_push_u32 _ rfl _ _ _ _ rfl 142 Tryz.underlying34 Tryz.underlying34 Tryz.infoU32 w.heap.size _ os rfl (HO.out.below ((bR_ _ _).alloc (lR_ _) _) (lR_ _)) _ 1 (c : Int) rfl (by simp) (by omega) Hosl.out (by have := Hbl.out.size; simp; omega) ?_; intro v3 w3 h3 hb3)
   rw [Int.toNat_natCast] at h3
   have HB := lH ((Hbl.out.alloc Hbl.out.size _).trans hb3)
   clear hb3
   go_wp2_with fail
   refine (rmake_any _ _ _ (h3.sl HE.out.1 (by rw [HE.out.2.1]; omega))).mono ?_
   rintro e w4 ⟨v4, rfl, h4, hb4⟩
   rw [HE.out.2.2] at h4
   have HB2 := HB.out.trans (hb4.mono HB.out.size)
   clear hb4
   go_wp2
   go_ret
   exact ⟨_, rfl, h4, HB2⟩
theorem base_alloc {B : Nat} {w : World} (h : B ≤ w.heap.size) (o : Obj) : B ≤ (w.alloc o).heap.size := by simp; omega
theorem val_of_one {ls : List Nat} (h : ls.length = 1) : val ls = ls.getD 0 0 := by
 have e := val_take_step ls 0
 rw [val_take_ge (by omega)] at e
 simpa [val] using e
theorem val_of_two {ls : List Nat} (h : ls.length = 2) : val ls = ls.getD 0 0 + 4294967296 * ls.getD 1 0 := by
 have e := val_take_step ls 1
 have e0 := val_take_step ls 0
 rw [val_take_ge (by omega), e0] at e
 simpa [val] using e
theorem ruint_any (v : Value) (xs : List Nat) (w : World) (h : Sl w v xs) : Calls Tryz.prog 165 #[v] w (Ret w (UintP (val xs))) := by
 have H2 := lH (sz_le_two (n := val xs))
 have Hva := lH (val_limbs (val xs))
 go_enter Tryz.func165, Tryz.ntmps165
 go_wp2_with fail
 refine (rmake_any _ xs _ h).mono ?_
 rintro e w1 ⟨v1, rfl, h1, hb1⟩
 unfold Num at h1
 clear h
 generalize val xs = a at *
 have Hn : Hid ((limbs a).length = sz a) := lH rfl
 generalize limbs a = ls at *
 obtain ⟨ad, n, cap, rfl, hn, hnc, hm, hx, hs⟩ := h1
 have Hl := lH hn; clear hn
 have Hx := lH hx; clear hx
 have Hb1 := lH hb1; clear hb1
 by_cases h2 : 2 < n
 ·
  have HF : Hid (uintN a = 0 ∧ uintB a = false) := lH (by
   have h3 : ¬ a < 18446744073709551616 := fun h => by
    have := H2.out.2 h; have h4 := Hn.out; have h5 := Hl.out; omega
   simp [uintN, uintB, h3])
  have t0 : ((n : Int) == 0) = false := by simp; omega
  have t1 : ((n : Int) == 1) = false := by simp; omega
  have t2 : ((n : Int) == 2) = false := by simp; omega
  clear hs
  go_wp2
  go_ret2
  refine ⟨_, rfl, ?_, Hb1.out⟩
  unfold UintP
  rw [HF.out.1, HF.out.2]; rfl
 ·
  have HF : Hid (uintN a = a ∧ uintB a = true) := lH (by
   have h3 : a < 18446744073709551616 := H2.out.1 (by have h4 := Hn.out; have h5 := Hl.out; omega)
   simp [uintN, uintB, h3])
  by_cases h0 : n = 0
  ·
   subst h0
   have HA : Hid (a = 0) := lH (sz_eq_zero.1 (by rw [← Hn.out]; exact Hl.out))
   clear hs
   go_wp2
   go_ret2
   refine ⟨_, rfl, ?_, Hb1.out⟩
   unfold UintP
   rw [HF.out.1, HF.out.2, HA.out]; rfl
  ·
   by_cases h1 : n = 1
   ·
    subst h1
    have HA : Hid (a = ls.getD 0 0) := lH (by rw [← Hva.out]; exact val_of_one Hl.out)
    have bx := lims_getD Hx.out 0
    obtain ⟨b, off, rfl, hbw, hc⟩ := hs (by omega)
    have c1 := hc 0 (by omega)
    rw [Nat.add_zero, ← HA.out] at c1
    rw [← HA.out] at bx
    clear hs hc
    go_wp2
    go_ret2
    refine ⟨_, rfl, ?_, Hb1.out⟩
    unfold UintP
    rw [HF.out.1, HF.out.2]; rfl
   ·
    obtain rfl : n = 2 := by omega
    have HA : Hid (a = ls.getD 0 0 + 4294967296 * ls.getD 1 0) := lH (by rw [← Hva.out]; exact val_of_two Hl.out)
    have bx := lims_getD Hx.out 0
    have by' := lims_getD Hx.out 1
    obtain ⟨b, off, rfl, hbw, hc⟩ := hs (by omega)
    have c1 := hc 0 (by omega)
    have c2 := hc 1 (by omega)
    rw [Nat.add_zero] at c1
    obtain ⟨x, hx⟩ : ∃ x, x = ls.getD 0 0 := ⟨_, rfl⟩
    obtain ⟨y, hy⟩ : ∃ y, y = ls.getD 1 0 := ⟨_, rfl⟩
    rw [← hx] at c1 bx HA
    rw [← hy] at c2 by' HA
    have ho := or_high bx by'
    rw [← HA.out] at ho
    clear hs hc hx hy
    go_wp2
    go_quiet (fail)
    go_wp2
    go_ret2
    refine ⟨_, rfl, ?_, below_drewN Hb1.out _⟩
    unfold UintP
    rw [HF.out.1, HF.out.2]; rfl
theorem blen_spec (n : Nat) : n < 2 ^ blen n ∧ (0 < n → 2 ^ blen n ≤ 2 * n) := by
 unfold blen
 split
 ·
  rename_i h; subst h; exact ⟨by decide, fun h => absurd h (by decide)⟩
 ·
  rename_i h
  have h3 := Nat.log2_self_le h
  have h4 := @Nat.lt_log2_self n
  exact ⟨h4, fun _ => by rw [Nat.pow_succ]; omega⟩
theorem blen_half {n : Nat} (h : 0 < n) : blen n = blen (n / 2) + 1 := by
 obtain ⟨h1, h2⟩ := blen_spec (n / 2)
 apply blen_uniq h
 ·
  rw [Nat.pow_succ]; omega
 ·
  rw [Nat.pow_succ]
  rcases eP_ (n / 2) with h0 | h0
  ·
   rw [h0, blen_zero]; omega
  ·
   have := h2 h0; omega
theorem blen_limbs {n : Nat} (h0 : 0 < n) : blen n = 32 * (sz n - 1) + blen ((limbs n).getD (sz n - 1) 0) := by
 rw [blen_top h0]
 have hne : (limbs n).getD (sz n - 1) 0 ≠ 0 := limbs_last h0
 have hlt := lims_getD (lims_limbs n) (sz n - 1)
 generalize (limbs n).getD (sz n - 1) 0 = t at *
 obtain ⟨h1, h2⟩ := bitLen_spec (x := t) (by omega)
 rw [blen_uniq (by omega) h1 (h2 (by omega))]
theorem rbits_any (v : Value) (xs : List Nat) (w : World) (h : Sl w v xs) (hx : xs.length ≤ 8589934592) : Calls Tryz.prog 166 #[v] w (Ret w (Val (.int .i64 ((blen (val xs) : Nat) : Int)))) := by
 have hla := sz_val h.lims
 go_enter Tryz.func166, Tryz.ntmps166
 go_wp2_with fail
 refine (rmake_any _ xs _ h).mono ?_
 rintro e w1 ⟨v1, rfl, h1, hb1⟩
 unfold Num at h1
 have Hb1 := lH hb1; clear hb1
 clear h
 generalize val xs = a at *
 rcases eP_ a with h0 | h0
 ·
  subst h0
  rw [limbs_zero] at h1
  obtain ⟨ad, n, cap, rfl, hn, -⟩ := h1
  have : n = 0 := by simpa using hn.symm
  subst this
  clear hn hla
  rw [blen_zero]
  go_wp2
  go_ret
  exact ⟨_, rfl, rfl, Hb1.out⟩
 ·
  have HT := lH (blen_limbs h0)
  have hp := sz_pos h0
  have hlt := lims_getD (lims_limbs a) (sz a - 1)
  obtain ⟨ad, n, cap, rfl, hn, hnc, hm, hx, hs⟩ := h1
  obtain rfl : n = sz a := hn.symm
  obtain ⟨b, off, rfl, hbw, hc⟩ := hs hp
  have c1 := hc (sz a - 1) (by omega)
  obtain ⟨t, ht⟩ : ∃ t, t = (limbs a).getD (sz a - 1) 0 := ⟨_, rfl⟩
  rw [← ht] at c1 hlt HT
  have hbl : blen t ≤ 32 := by
   obtain ⟨s1, s2⟩ := blen_spec t
   rcases Nat.lt_or_ge 32 (blen t) with h | h
   ·
    exfalso
    have h5 : 2 ^ 33 ≤ 2 ^ blen t := Nat.pow_le_pow_right (by decide) h
    have e : 2 ^ 33 = 8589934592 := by decide
    rcases eP_ t with hz | hz
    ·
     rw [hz, blen_zero] at h; omega
    ·
     have := s2 hz; omega
   ·
    exact h
  have Hbl := lH hbl
  generalize blen a = bl at *
  generalize sz a = n at *
  have hne : ((n : Int) == 0) = false := by simp; omega
  clear hc hs ht hn hx h0 hbl
  go_wp2_with fail
  go_loop [3, 4] (fun k x => ∃ j y : Nat, k = .int .i64 (32 * ((n : Int) - 1) + (j : Int)) ∧ x = .int .u32 (y : Int) ∧ j ≤ 32 ∧ y < 4294967296 ∧ Hid (blen t = j + blen y)) (fun _ x => (intOf x).toNat)
  case atStart => exact ⟨0, t, congrArg (Value.int .i64) (by omega), rfl, by omega, hlt, lH (by omega)⟩
  case round =>
   obtain ⟨j, y, rfl, rfl, hj, hy, Hs⟩ := hrel
   rcases eP_ y with hy0 | hy0
   ·
    subst hy0
    have HF : Hid (bl = 32 * (n - 1) + j) := lH (by rw [HT.out, Hs.out, blen_zero, Nat.add_zero])
    clear c1
    go_wp2
    go_ret
    refine ⟨_, rfl, ?_, Hb1.out⟩
    show Value.int _ _ = Value.int _ _
    rw [HF.out]
    congr 1
    omega
   ·
    have HH := lH (blen_half hy0)
    have hj2 : j + 1 ≤ 32 := by have := HH.out; have := Hs.out; have := Hbl.out; omega
    clear c1
    go_wp2
    go_round
    case rel => exact ⟨j + 1, y / 2, congrArg (Value.int .i64) (by omega), congrArg (Value.int .u32) (by omega), hj2, by omega, lH (by have := HH.out; have := Hs.out; omega)⟩
    case measure => simp [intOf] <;> omega
namespace Nt
theorem pow32 (p s : Nat) : 2 ^ (32 * p + s) = 4294967296 ^ p * 2 ^ s := by
 have e32 : (2 : Nat) ^ 32 = 4294967296 := by decide
 rw [Nat.pow_add, Nat.pow_mul, e32]
theorem limb_of {xs : List Nat} (h : lims xs) {p : Nat} (hp : p < xs.length) : xs.getD p 0 = val xs / 4294967296 ^ p % 4294967296 := by
 rw [← val_drop' h p (by omega), drop_cons_val xs p hp]
 have := lims_getD h p
 omega
theorem half_even {B m s : Nat} (h : B % 2 ^ (s + 1) = 0) (x : Nat) : (x + B * m) / 2 ^ s % 2 = x / 2 ^ s % 2 := by
 obtain ⟨c, hc⟩ : ∃ c, B = 2 ^ (s + 1) * c := ⟨B / 2 ^ (s + 1), by have := Nat.div_add_mod B (2 ^ (s + 1)); omega⟩
 have e : x + B * m = x + 2 ^ s * (2 * (c * m)) := by rw [hc, Nat.pow_succ]; grind
 rw [e, Nat.add_mul_div_left _ _ (Nat.pow_pos (by decide))]
 omega
theorem bit_of {xs : List Nat} (h : lims xs) {p s : Nat} (hp : p < xs.length) (hs : s ≤ 31) : xs.getD p 0 / 2 ^ s % 2 = val xs / 2 ^ (32 * p + s) % 2 := by
 rw [pow32, ← Nat.div_div_eq_div_mul, ← val_drop' h p (by omega), drop_cons_val xs p hp]
 have hB : 4294967296 % 2 ^ (s + 1) = 0 := by
  have e : 4294967296 = 2 ^ (s + 1) * 2 ^ (31 - s) := by rw [← Nat.pow_add, show s + 1 + (31 - s) = 32 by omega]
  rw [e]; exact Nat.mul_mod_right _ _
 rw [half_even hB]
theorem bit_step (A j : Nat) : A / 2 ^ j = 2 * (A / 2 ^ (j + 1)) + A / 2 ^ j % 2 := by
 have e : A / 2 ^ (j + 1) = A / 2 ^ j / 2 := by rw [Nat.pow_succ, Nat.div_div_eq_div_mul]
 rw [e]; omega
theorem div_step {m V b : Nat} (hV : 0 < V) (hb : b < 2) :
  (2 * (m % V) + b < V → (2 * m + b) / V = 2 * (m / V) ∧ (2 * m + b) % V = 2 * (m % V) + b) ∧
  (V ≤ 2 * (m % V) + b → (2 * m + b) / V = 2 * (m / V) + 1 ∧ (2 * m + b) % V = 2 * (m % V) + b - V) := by
 have e := Nat.div_add_mod m V
 have hr := Nat.mod_lt m hV
 generalize m / V = Q at *
 generalize m % V = R at *
 constructor
 ·
  intro h
  have e2 : 2 * m + b = (2 * R + b) + V * (2 * Q) := by rw [← e]; grind
  rw [e2]
  exact ⟨by rw [Nat.add_mul_div_left _ _ hV, Nat.div_eq_of_lt h, Nat.zero_add], by rw [Nat.add_mul_mod_self_left, Nat.mod_eq_of_lt h]⟩
 ·
  intro h
  have e3 : V * (2 * Q) = 2 * (V * Q) := by grind
  have e2 : 2 * m + b = (2 * R + b - V) + V * (2 * Q + 1) := by rw [Nat.mul_add, Nat.mul_one, ← e]; omega
  have hlt : 2 * R + b - V < V := by omega
  rw [e2]
  exact ⟨by rw [Nat.add_mul_div_left _ _ hV, Nat.div_eq_of_lt hlt, Nat.zero_add], by rw [Nat.add_mul_mod_self_left, Nat.mod_eq_of_lt hlt]⟩
def bitsInv (n k Q : Nat) (qs : List Nat) : Prop := qs.length = n ∧ lims qs ∧ val qs = 2 ^ k * Q
theorem bitsInv_zero (n k : Nat) : bitsInv n k 0 (List.replicate n 0) := ⟨by simp, lims_replicate n, by rw [val_replicate, Nat.mul_zero]⟩
theorem bitsInv_even {n j Q : Nat} {qs : List Nat} (h : bitsInv n (j + 1) Q qs) : bitsInv n j (2 * Q) qs := by
 obtain ⟨h1, h2, h3⟩ := h
 exact ⟨h1, h2, by rw [h3, Nat.pow_succ]; grind⟩
theorem bitsInv_limb {n p s Q : Nat} {qs : List Nat} (h : bitsInv n (32 * p + s + 1) Q qs) (hp : p < n) (hs : s ≤ 31) : ∃ m, qs.getD p 0 = 2 ^ (s + 1) * m ∧ 2 ^ (s + 1) * m + 2 ^ s < 4294967296 := by
 obtain ⟨h1, h2, h3⟩ := h
 have e := limb_of h2 (p := p) (by omega)
 have hb := lims_getD h2 p
 rw [h3, show 32 * p + s + 1 = 32 * p + (s + 1) by omega, pow32, Nat.mul_assoc, Nat.mul_div_cancel_left _ (Nat.pow_pos (by decide))] at e
 have e32 : 4294967296 = 2 ^ (s + 1) * 2 ^ (31 - s) := by rw [← Nat.pow_add, show s + 1 + (31 - s) = 32 by omega]
 rw [e32, Nat.mul_mod_mul_left] at e
 refine ⟨_, e, ?_⟩
 have hm : Q % 2 ^ (31 - s) < 2 ^ (31 - s) := Nat.mod_lt _ (Nat.pow_pos (by decide))
 have h4 : 2 ^ (s + 1) * (Q % 2 ^ (31 - s) + 1) ≤ 2 ^ (s + 1) * 2 ^ (31 - s) := Nat.mul_le_mul_left _ hm
 rw [← e32, Nat.mul_add] at h4
 have : 0 < 2 ^ s := Nat.pow_pos (by decide)
 have e5 : 2 ^ (s + 1) = 2 ^ s * 2 := Nat.pow_succ _ _
 omega
theorem bitsInv_odd {n p s Q : Nat} {qs : List Nat} (h : bitsInv n (32 * p + s + 1) Q qs) (hp : p < n) (hs : s ≤ 31) : bitsInv n (32 * p + s) (2 * Q + 1) (qs.set p (qs.getD p 0 + 2 ^ s)) := by
 obtain ⟨m, hm, hlt⟩ := bitsInv_limb h hp hs
 obtain ⟨h1, h2, h3⟩ := h
 refine ⟨by simpa using h1, lims_set h2 _ _ (by rw [hm]; exact hlt), ?_⟩
 have e := val_set (xs := qs) (k := p) (x := qs.getD p 0 + 2 ^ s) (by omega)
 rw [Nat.mul_add] at e
 have e2 : 2 ^ (32 * p + s) * (2 * Q + 1) = 2 ^ (32 * p + s + 1) * Q + 4294967296 ^ p * 2 ^ s := by
  rw [Nat.mul_add, Nat.mul_one, ← pow32, Nat.pow_succ]; grind
 omega
end Nt
theorem rdiv_zero (v v' : Value) (xs ys : List Nat) (w : World) (h : Sl w v xs) (h' : Sl w v' ys) (h0 : val ys = 0) :
  Calls Tryz.prog 127 #[v, v'] w (Ret w (Num2E 0 0 3)) := by
 have hy : uintN (val ys) = 0 ∧ uintB (val ys) = true := by rw [h0]; exact ⟨rfl, rfl⟩
 obtain ⟨hy1, hy2⟩ := hy
 go_enter Tryz.func127, Tryz.ntmps127
 go_wp2_with fail
 refine (ruint_any _ xs _ h).mono ?_
 rintro e w1 ⟨v1, rfl, h1, hb1⟩
 unfold UintP at h1
 subst h1
 have h'1 := h'.below hb1
 go_wp2_with fail
 refine (ruint_any _ ys _ h'1).mono ?_
 rintro e w2 ⟨v2, rfl, h2, hb2⟩
 unfold UintP at h2
 subst h2
 rw [hy1, hy2]
 have HB := hb1.trans (hb2.mono hb1.size)
 clear hb1 hb2 hy1 hy2 h0 h h' h'1
 go_wp2
 go_ret3
 exact ⟨_, rfl, ⟨_, _, rfl, by rw [limbs_zero]; exact Sl.nil _, by rw [limbs_zero]; exact Sl.nil _⟩, HB⟩
theorem rdiv_small (v v' : Value) (xs ys : List Nat) (w : World) (h : Sl w v xs) (h' : Sl w v' ys) (h0 : 0 < val ys) (hx : val xs < 18446744073709551616) (hy : val ys < 18446744073709551616) :
  Calls Tryz.prog 127 #[v, v'] w (Ret w (Num2E (val xs / val ys) (val xs % val ys) 0)) := by
 have hx12 : uintN (val xs) = val xs ∧ uintB (val xs) = true := by simp [uintN, uintB, hx]
 have hy12 : uintN (val ys) = val ys ∧ uintB (val ys) = true := by simp [uintN, uintB, hy]
 obtain ⟨hx1, hx2⟩ := hx12
 obtain ⟨hy1, hy2⟩ := hy12
 go_enter Tryz.func127, Tryz.ntmps127
 go_wp2_with fail
 refine (ruint_any _ xs _ h).mono ?_
 rintro e w1 ⟨v1, rfl, h1, hb1⟩
 unfold UintP at h1
 subst h1
 have h'1 := h'.below hb1
 go_wp2_with fail
 refine (ruint_any _ ys _ h'1).mono ?_
 rintro e w2 ⟨v2, rfl, h2, hb2⟩
 unfold UintP at h2
 subst h2
 rw [hy1, hy2]
 have HB := lH (hb1.trans (hb2.mono hb1.size))
 clear hb1 hb2 hy1 hy2 hx1 hx2 h h' h'1
 generalize val xs = x at *
 generalize val ys = y at *
 have hne : ((y : Int) == 0) = false := by simp; omega
 have HR := lH (Nat.lt_of_le_of_lt (Nat.div_le_self x y) hx)
 have HM := lH (Nat.lt_trans (Nat.mod_lt x h0) hy)
 have Hn := lH (show (Tryz.f97.name == "runtime.NumGoroutine") = false from by kernel_rfl)
 obtain ⟨q, hq⟩ : ∃ q, q = x / y := ⟨_, rfl⟩
 obtain ⟨r, hr⟩ : ∃ r, r = x % y := ⟨_, rfl⟩
 rw [← hq] at HR
 rw [← hr] at HM
 have w1 : IntKind.u64.wrap ((x : Int) / (y : Int)) = (q : Int) := by
  have e : (x : Int) / (y : Int) = ((x / y : Nat) : Int) := by simp
  have := HR.out
  rw [e, ← hq, wrap_u64]; omega
 have w2 : (x : Int).tmod (y : Int) = (r : Int) := by rw [hr, Int.tmod_eq_emod_of_nonneg (by omega)]; simp
 have Hq := lH hq
 have Hr := lH hr
 have hyne : ¬ y = 0 := by omega
 clear h0 hq hr hx hy
 go_wp2_with fail
 go_region_law (first
  | (refine step_is 97 rfl ?_; refine step_call1 rfl 97 (.tmp 35) _ rfl Tryz.func97 Hn.out rfl rfl (rof_any q _ HR.out) ?_; intro v3 w3 h3 hb3)
  | (refine step_is 97 rfl ?_; refine step_call1 rfl 97 (.tmp 39) _ rfl Tryz.func97 Hn.out rfl rfl (rof_any r _ HM.out) ?_; intro v4 w4 h4 hb4))
 all_goals
  have h3' := h3.below hb4
  have HB2 := HB.out.trans (((bR_ _ _).drew.trans hb3).mono HB.out.size)
  have HB3 := HB2.trans (hb4.mono HB2.size)
  rw [Hq.out] at h3'
  unfold Num at h4
  rw [Hr.out] at h4
  clear hb3 hb4 h3 HB2 w1 w2
  go_wp2
  go_ret3
  exact ⟨_, rfl, ⟨_, _, rfl, h3', h4⟩, HB3⟩
theorem rshl_one (v : Value) (xs : List Nat) (w : World) (h : Sl w v xs) (hxl : xs.length ≤ 4294967296) :
  Calls Tryz.prog 167 #[v, .int .i64 1] w (Ret w (Num (val xs * 2))) := rshl_any v xs 1 w h hxl (by decide)
theorem and_one (x : Nat) (h : x < 4294967296) : bits .and .u32 (x : Int) 1 = ((x % 2 : Nat) : Int) := by
 have := u32_and_nat x 1 h (by decide)
 rw [Nat.and_one_is_mod] at this
 exact this
theorem cmp_ge {a b : Nat} (h : b ≤ a) : decide (0 ≤ cmpN a b) = true := by
 rcases Nat.lt_or_ge b a with h' | h'
 ·
  rw [cmpN_gt h']; decide
 ·
  rw [cmpN_eq (by omega)]; decide
theorem cmp_nge {a b : Nat} (h : a < b) : decide (0 ≤ cmpN a b) = false := by rw [cmpN_lt h]; decide
theorem rdiv_big (v v' : Value) (xs ys : List Nat) (w : World) (h : Sl w v xs) (h' : Sl w v' ys) (hxl : xs.length ≤ 2147483648) (hyl : ys.length ≤ 2147483648) (h0 : 0 < val ys)
  (hbig : uintB (val ys) = false ∨ (uintB (val ys) = true ∧ uintB (val xs) = false)) :
  Calls Tryz.prog 127 #[v, v'] w (Ret w (Num2E (val xs / val ys) (val xs % val ys) 0)) := by
 have hT1 : uintB (val ys) = true → ((uintN (val ys) : Nat) : Int) ≠ 0 := fun hb => by
  have : val ys < 18446744073709551616 := by simpa [uintB] using hb
  simp [uintN, this]; omega
 go_enter Tryz.func127, Tryz.ntmps127
 go_wp2_with fail
 refine (ruint_any _ xs _ h).mono ?_
 rintro e w1 ⟨v1, rfl, h1, hb1⟩
 unfold UintP at h1
 subst h1
 have h1 := h.below hb1
 have h'1 := h'.below hb1
 go_wp2_with fail
 refine (ruint_any _ ys _ h'1).mono ?_
 rintro e w2 ⟨v2, rfl, h2, hb2⟩
 unfold UintP at h2
 subst h2
 have HX := lH (h1.below hb2)
 have HY := lH (h'1.below hb2)
 have HB := lH (hb1.trans (hb2.mono hb1.size))
 have Hyl := lH hyl
 have H0 := lH h0
 have HXl := lH HX.out.lims
 have hbl : blen (val xs) ≤ 68719476736 := by
  rcases eP_ (val xs) with hz | hz
  ·
   rw [hz, blen_zero]; omega
  ·
   rw [blen_top hz]
   have h3 := sz_val h.lims
   have h4 := bitLen_le (lims_getD (lims_limbs (val xs)) (sz (val xs) - 1))
   omega
 have HBL : Hid (blen (val xs) ≤ 32 * xs.length) := lH (by
  rcases eP_ (val xs) with hz | hz
  ·
   rw [hz, blen_zero]; omega
  ·
   rw [blen_top hz]
   have h3 := sz_val h.lims
   have h3' := sz_pos hz
   have h4 := bitLen_le (lims_getD (lims_limbs (val xs)) (sz (val xs) - 1))
   omega)
 have HBS := lH (blen_spec (val xs))
 have hxl8 : Hid (xs.length ≤ 8589934592) := lH (by omega)
 obtain ⟨ad, n, cap, rfl, hn, hnc, hm, -, hs⟩ := HX.out
 have hn4 : n ≤ 2147483648 := by omega
 have Hn := lH hn
 clear h h' h1 h'1 hb1 hb2 hxl hyl h0 hn
 generalize hA : val xs = A at *
 generalize hV : val ys = V at *
 have HA := lH hA
 have HV := lH hV
 clear hA hV
 have hcase : (uintB A = true ∧ uintB V = false) ∨ (uintB A = false ∧ uintB V = false) ∨ (uintB A = false ∧ uintB V = true ∧ (((uintN V : Nat) : Int) == 0) = false) := by
  rcases hbig with hb | ⟨hb1, hb2⟩
  ·
   rcases Bool.eq_false_or_eq_true (uintB A) with ha | ha
   ·
    exact Or.inl ⟨ha, hb⟩
   ·
    exact Or.inr (Or.inl ⟨ha, hb⟩)
  ·
   exact Or.inr (Or.inr ⟨hb2, hb1, by simpa using hT1 hb1⟩)
 clear hbig hT1
 rcases hcase with ⟨e1, e2⟩ | ⟨e1, e2⟩ | ⟨e1, e2, e3⟩
 all_goals
  go_wp2_with (at_make; refine wpList_make_u32 _ rfl _ _ _ rfl 142 Tryz.underlying34 Tryz.infoU32 _ n rfl rfl (by omega) (by omega) ?_; intro w0 hA0 hb0 _)
  have HX0 := lH ((HX.out.below hb0).below ((bR_ _ _).alloc (lR_ _) (.cells #[] 142)))
  have HB0 := lH (hb0.alloc hb0.size (.cells #[] 142))
  have HAr0 := lH (hA0.below ((bR_ w0.heap.size w0).alloc (lR_ _) (.cells #[] 142)) hA0.lt)
  clear hb0 hA0
  go_wp2_with fail
  refine (rbits_any _ xs _ HX0.out hxl8.out).mono ?_
  rintro e w4 ⟨v4, rfl, h4, hb4⟩
  unfold Val at h4
  subst h4
  rw [HA.out]
  have HB4 := lH (HB0.out.trans (hb4.mono HB0.out.size))
  have HAr4 := lH (HAr0.out.below hb4 HAr0.out.lt)
  have HN0 : Hid (∀ g, Sl w4 (.slice g 0 0) (limbs (A / 2 ^ blen A % V))) := lH fun g => by
   rw [Nat.div_eq_of_lt HBS.out.1, Nat.zero_mod, limbs_zero]
   exact ⟨_, 0, 0, rfl, rfl, lR_ _, by decide, lims_nil, fun h => absurd h (by decide)⟩
  have HI0 : Hid (bitsInv n (blen A) (A / 2 ^ blen A / V) (List.replicate n 0)) := lH (by
   rw [Nat.div_eq_of_lt HBS.out.1, Nat.zero_div]; exact bitsInv_zero _ _)
  have HBL2 : Hid (blen A ≤ 32 * n) := lH (by rw [← Hn.out]; exact HBL.out)
  clear hb4 HX0 HB0 HAr0
  go_wp2_with fail
  go_loopw [12, 13] (fun r i wr => ∃ (k : Nat) (qs : List Nat), k ≤ 68719476736 ∧ i = .int .i64 ((k : Int) - 1) ∧ Hid (k ≤ 32 * n) ∧ Hid (Sl wr r (limbs (A / 2 ^ k % V))) ∧ Hid (Arr wr w2.heap.size qs) ∧ Hid (bitsInv n k (A / 2 ^ k / V) qs) ∧ Hid (Below w2.heap.size w2 wr)) (fun _ i _ => (intOf i + 1).toNat)
  case atStart => exact ⟨blen A, _, hbl, rfl, HBL2, lH (HN0.out _), HAr4, HI0, HB4⟩
  case round =>
   clear HN0 HAr4 HI0 HB4 hbl
   obtain ⟨k, qs, hk, rfl, Hk, HR, HAr, HI, HBl⟩ := hrel
   rcases eP_ k with hk0 | hk0
   ·
    subst hk0
    rw [Nat.pow_zero, Nat.div_one] at HR HI
    have HQ : Hid (val qs = A / V) := lH (by rw [HI.out.2.2, Nat.pow_zero, Nat.one_mul])
    go_wp2_with fail
    refine (rmake_any _ qs _ (HAr.out.sl (n := n) HI.out.2.1 HI.out.1 (lR_ _) (by omega))).mono ?_
    rintro e w5 ⟨v5, rfl, h5, hb5⟩
    rw [HQ.out] at h5
    have HR5 := lH (HR.out.below hb5)
    have HB5 := lH (HB.out.trans ((HBl.out.trans (hb5.mono HBl.out.size)).mono HB.out.size))
    clear hb5
    go_wp2
    go_ret3
    exact ⟨_, rfl, ⟨_, _, rfl, h5, HR5.out⟩, HB5.out⟩
   ·
    obtain ⟨j, rfl⟩ : ∃ j, k = j + 1 := ⟨k - 1, by omega⟩
    rw [show ((j + 1 : Nat) : Int) - 1 = (j : Int) from by omega]
    obtain ⟨p, hp⟩ : ∃ p, p = j / 32 := ⟨_, rfl⟩
    obtain ⟨s, hsr⟩ : ∃ s, s = j % 32 := ⟨_, rfl⟩
    have f1 : (j : Int) / 32 = (p : Int) := by omega
    have f2 : (j : Int) % 32 = (s : Int) := by omega
    have f3 : IntKind.i64.wrap ((j : Int) / 32) = (p : Int) := by rw [IntKind.wrap_i64]; omega
    have f4 : (j : Int).tmod 32 = (s : Int) := by rw [Int.tmod_eq_emod_of_nonneg (by omega)]; omega
    have hpn : p < n := by have := Hk.out; omega
    have hs31 : s ≤ 31 := by omega
    have Hj : Hid (j = 32 * p + s) := lH (by omega)
    have hjk : j ≤ 68719476736 := by omega
    obtain ⟨b1, off, rfl, hbw, hc⟩ := hs (by omega)
    have bx := lims_getD HXl.out p
    have hbit := bit_of HXl.out (p := p) (s := s) (by rw [Hn.out]; exact hpn) hs31
    obtain ⟨x, hx⟩ : ∃ x, x = xs.getD p 0 := ⟨_, rfl⟩
    have C1 := lH (hc p hpn)
    rw [← hx] at bx hbit C1
    rw [HA.out, ← Hj.out] at hbit
    obtain ⟨bt, hbt⟩ : ∃ bt, bt = A / 2 ^ j % 2 := ⟨_, rfl⟩
    rw [← hbt] at hbit
    have hb2 : bt < 2 := by omega
    have ha : bits .and .u32 ((x : Int) / 2 ^ s) 1 = (bt : Int) := by
     have h1 := and_one (x / 2 ^ s) (Nat.lt_of_le_of_lt (Nat.div_le_self _ _) bx)
     rw [hbit] at h1
     rw [← h1]; congr 1
    have HDS := lH (div_step (m := A / 2 ^ (j + 1)) (V := V) (b := bt) H0.out hb2)
    have HBJ := lH (bit_step A j)
    rw [← hbt] at HBJ
    have HRV : Hid (A / 2 ^ (j + 1) % V < V) := lH (Nat.mod_lt _ H0.out)
    generalize A / 2 ^ (j + 1) = m at *
    have HszV : Hid (sz V ≤ 2147483648) := lH (by rw [← HV.out]; exact tL_ (sz_val HY.out.lims) Hyl.out)
    have Hsz1 : Hid ((limbs (m % V)).length ≤ 4294967296) := lH (by
     have h1 : sz (m % V) ≤ sz V := sz_mono (Nat.le_of_lt HRV.out)
     have := HszV.out
     unfold sz at *; omega)
    have Hsz2 : Hid ((limbs (m % V * 2)).length ≤ 2147483652) := lH (by
     have h1 : sz (m % V) ≤ sz V := sz_mono (Nat.le_of_lt HRV.out)
     have h2 := sz_mul (m % V) 2
     have h3 : sz 2 ≤ 1 := sz_le (by decide)
     have := HszV.out
     unfold sz at *; omega)
    have Hsz3 : Hid ((limbs (2 * (m % V) + bt)).length ≤ 2147483656) := lH (by
     have h2 := sz_add (m % V * 2) bt
     have h3 : sz bt ≤ 1 := sz_le (by omega)
     have := Hsz2.out
     rw [Nat.mul_comm 2]
     unfold sz at *; omega)
    clear hbt hbit hx hc hk Hk hsr hp
    go_wp2_with fail
    refine (rshl_one _ (limbs (m % V)) _ HR.out Hsz1.out).mono ?_
    rintro e w5 ⟨v5, rfl, h5, hb5⟩
    unfold Num at h5
    rw [val_limbs] at h5
    have HB5 := lH (HBl.out.trans (hb5.mono HBl.out.size))
    have HAr5 := lH (HAr.out.below hb5 HAr.out.lt)
    have c1 := (HB5.out.cell (p := ⟨b1, off + p, none⟩) hbw).trans C1.out
    have H5 := lH (h5.below ((bR_ _ _).alloc (lR_ _) (.cells #[.int .u32 (bt : Int)] 142)))
    have S1 := sl_one w5 142 (bt : Int) (by omega)
    rw [Int.toNat_natCast] at S1
    have HS1 := lH S1
    clear S1 h5 hb5
    go_wp2_with fail
    refine (radd_any _ _ _ [bt] _ H5.out HS1.out (by have := Hsz2.out; omega) (by simp)).mono ?_
    rintro e w6 ⟨v6, rfl, h6, hb6⟩
    unfold Num at h6
    rw [val_limbs, show m % V * 2 + val [bt] = 2 * (m % V) + bt by simp only [val]; omega] at h6
    have HB6 := lH ((HB5.out.alloc HB5.out.size _).trans (hb6.mono (base_alloc HB5.out.size _)))
    have HAr6 := lH ((HAr5.out.below ((bR_ _ _).alloc (lR_ _) _) HAr5.out.lt).below hb6 (by have := HAr5.out.lt; simp; omega))
    have H6 := lH h6
    have HY6 := lH (HY.out.below HB6.out)
    clear h6 hb6 c1
    go_wp2_with fail
    refine (rcmp_any _ _ _ _ _ H6.out HY6.out).mono ?_
    rintro e w7 ⟨v7, rfl, h7, hb7⟩
    unfold Val at h7
    subst h7
    rw [val_limbs, HV.out]
    have HB7 := lH (HB6.out.trans (hb7.mono HB6.out.size))
    have HAr7 := lH (HAr6.out.below hb7 HAr6.out.lt)
    have H7 := lH (H6.out.below hb7)
    have HY7 := lH (HY6.out.below hb7)
    clear hb7
    rcases Nat.lt_or_ge (2 * (m % V) + bt) V with hlt | hge
    ·
     have hcd := cmp_nge hlt
     have HD := lH (HDS.out.1 hlt)
     have Hlt := lH hlt
     clear hlt
     generalize cmpN (2 * (m % V) + bt) V = cm at *
     go_wp2
     go_roundw
     case rel =>
      refine ⟨j, qs, hjk, rfl, lH (by have := Hj.out; omega), lH ?_, HAr7, lH ?_, HB7⟩
      ·
       rw [HBJ.out, HD.out.2]; exact H7.out
      ·
       rw [HBJ.out, HD.out.1]; exact bitsInv_even HI.out
     case measure => simp [intOf] <;> omega
    ·
     have hcd := cmp_ge hge
     have HD := lH (HDS.out.2 hge)
     have Hge := lH hge
     clear hge
     generalize cmpN (2 * (m % V) + bt) V = cm at *
     go_wp2_with fail
     refine (rsub_anyF _ _ _ _ _ H7.out HY7.out (by have := Hsz3.out; omega)).mono ?_
     rintro e w8 ⟨v8, rfl, ⟨v9, rfl, h9, hf9⟩, hb8⟩
     rw [val_limbs, HV.out] at h9
     have HB8 := lH (HB7.out.trans (hb8.mono HB7.out.size))
     have HAr8 := lH (HAr7.out.below hb8 HAr7.out.lt)
     have H9 := lH h9
     have Hf9 := lH hf9
     have Hlt7 := lH HAr7.out.lt
     clear h9 hf9 hb8
     have c3 := HAr8.out.cell p (by rw [HI.out.1]; exact hpn)
     have c4 := HAr8.out.frozen p
     have bu := lims_getD HI.out.2.1 p
     have HIj : Hid (bitsInv n (32 * p + s + 1) (m / V) qs) := lH (by rw [← Hj.out]; exact HI.out)
     obtain ⟨u, hu⟩ : ∃ u, u = qs.getD p 0 := ⟨_, rfl⟩
     rw [← hu] at c3 bu
     have Hu := lH hu; clear hu
     have HOr : Hid (bits .or .u32 (u : Int) ((2 : Int) ^ s % 4294967296) = ((qs.getD p 0 + 2 ^ s : Nat) : Int)) := lH (by
      obtain ⟨mm, hm1, hm2⟩ := bitsInv_limb HIj.out hpn hs31
      have h31 : 2 ^ s ≤ 2 ^ 31 := Nat.pow_le_pow_right (by decide) hs31
      have e31 : 2 ^ 31 = 2147483648 := by decide
      have e1 : (2 : Int) ^ s % 4294967296 = ((2 ^ s : Nat) : Int) := by
       have : ((2 ^ s : Nat) : Int) = (2 : Int) ^ s := by simp
       rw [← this]
       generalize 2 ^ s = P at h31 ⊢
       omega
      have hps : 0 < 2 ^ s := Nat.pow_pos (by decide)
      rw [e1, Hu.out, u32_or_nat _ _ (by omega) (by omega), hm1, Nat.or_comm, Nat.mul_comm, or_low (by rw [Nat.pow_succ]; omega), Nat.add_comm])
     go_wp2_with fail
     go_region
     have HW := lH ((HB8.out.setCell (p := ⟨w2.heap.size, p, none⟩) (lR_ _) (.int .u32 (bits .or .u32 (u : Int) ((2 : Int) ^ s % 4294967296)))).drew)
     have HS9 : Hid (Sl (w8.setCell ⟨w2.heap.size, p, none⟩ (.int .u32 (bits .or .u32 (u : Int) ((2 : Int) ^ s % 4294967296)))).drew v9 (limbs (2 * (m % V) + bt - V))) := lH ((H9.out.older Hf9.out Hlt7.out).drew)
     have HA9 : Hid (Arr (w8.setCell ⟨w2.heap.size, p, none⟩ (.int .u32 (bits .or .u32 (u : Int) ((2 : Int) ^ s % 4294967296)))).drew w2.heap.size (qs.set p (qs.getD p 0 + 2 ^ s))) := lH (by
      rw [HOr.out]; exact (HAr8.out.set p _).drew)
     clear c3 c4
     go_wp2
     go_roundw
     case rel =>
      refine ⟨j, _, hjk, rfl, lH (by have := Hj.out; omega), lH ?_, HA9, lH ?_, HW⟩
      ·
       rw [HBJ.out, HD.out.2]; exact HS9.out
      ·
       rw [HBJ.out, HD.out.1, Hj.out]; exact bitsInv_odd HIj.out hpn hs31
     case measure => simp [intOf] <;> omega
theorem uintB_eq (n : Nat) : uintB n = true ↔ n < 18446744073709551616 := by simp [uintB]
theorem rdivmod_any (v v' : Value) (xs ys : List Nat) (w : World) (h : Sl w v xs) (h' : Sl w v' ys) (hxl : xs.length ≤ 2147483648) (hyl : ys.length ≤ 2147483648) :
  Calls Tryz.prog 127 #[v, v'] w (Ret w (Num2E (val xs / val ys) (dmR (val xs) (val ys)) (dmE (val ys)))) := by
 rcases eP_ (val ys) with h0 | h0
 ·
  have := rdiv_zero v v' xs ys w h h' h0
  rw [h0]
  simpa [dmR, dmE] using this
 ·
  rw [dmR_pos h0, dmE_pos h0]
  by_cases hy : val ys < 18446744073709551616
  ·
   by_cases hx : val xs < 18446744073709551616
   ·
    exact rdiv_small v v' xs ys w h h' h0 hx hy
   ·
    exact rdiv_big v v' xs ys w h h' hxl hyl h0 (Or.inr ⟨(uintB_eq _).2 hy, by simpa [uintB] using hx⟩)
  ·
   exact rdiv_big v v' xs ys w h h' hxl hyl h0 (Or.inl (by simpa [uintB] using hy))
theorem rgcd_any (v v' : Value) (xs ys : List Nat) (w : World) (h : Sl w v xs) (h' : Sl w v' ys) (hx : xs.length ≤ 2147483648) (hy : ys.length ≤ 2147483648) :
  Calls Tryz.prog 126 #[v, v'] w (Ret w (Num (Nat.gcd (val xs) (val ys)))) := by
 have hla := sz_val h.lims
 have hlb := sz_val h'.lims
 go_enter Tryz.func126, Tryz.ntmps126
 go_wp2_with fail
 refine (rmake_any _ xs _ h).mono ?_
 rintro e w1 ⟨v1, rfl, h1, hb1⟩
 have h' := h'.below hb1
 go_wp2_with fail
 refine (rmake_any _ ys _ h').mono ?_
 rintro e w2 ⟨v2, rfl, h2, hb2⟩
 unfold Num at h1 h2
 have H1 := lH (h1.below hb2)
 have H2 := lH h2
 have HB0 := lH (hb1.trans (hb2.mono hb1.size))
 clear h h' h1 h2 hb1 hb2
 obtain ⟨G, hG⟩ : ∃ G, G = Nat.gcd (val xs) (val ys) := ⟨_, rfl⟩
 have H0 : Hid (sz (val xs) ≤ 2147483648 ∧ sz (val ys) ≤ 2147483648) := lH (by omega)
 generalize val xs = a at *
 generalize val ys = b at *
 have HG := lH hG; clear hG hla hlb
 go_wp2_with fail
 go_loopw [0, 1] (fun va vb wr => ∃ x y : Nat, Hid (Sl wr va (limbs x)) ∧ Hid (Sl wr vb (limbs y)) ∧ Hid (sz x ≤ 2147483648 ∧ sz y ≤ 2147483648) ∧ Hid (G = Nat.gcd x y) ∧ Hid (Below w.heap.size w wr)) (fun _ vb wr => numOf wr vb)
 case atStart => exact ⟨a, b, H1, H2, H0, HG, HB0⟩
 case round =>
  obtain ⟨x, y, HX, HY, Hs, Hg, Hbl⟩ := hrel
  have HYb := HY
  obtain ⟨ad, n, cap, rfl, hn, -⟩ := HY.out
  have Hn : Hid (sz y = n) := lH hn
  clear hn HY
  by_cases h2 : 0 < n
  ·
   have Hy0 : Hid (0 < y) := lH (by
    rcases eP_ y with h0 | h0
    ·
     have := Hn.out; rw [h0, sz_zero] at this; omega
    ·
     exact h0)
   go_wp2_with fail
   refine (rdivmod_any _ _ (limbs x) (limbs y) _ HX.out HYb.out Hs.out.1 Hs.out.2).mono ?_
   rintro e w2 ⟨v3, rfl, ⟨q, r, rfl, -, hr⟩, hb2⟩
   rw [val_limbs, val_limbs, dmR_pos Hy0.out] at hr
   have HY2 := lH (HYb.out.below hb2)
   have HR := lH hr
   have HB := lH (Hbl.out.trans (hb2.mono Hbl.out.size))
   have HN := lH (numOf_eq HYb.out)
   clear hr hb2
   go_wp2
   go_roundw
   case rel =>
    exact ⟨y, x % y, HY2, HR, lH ⟨Hs.out.2, tL_ (sz_mono (Nat.le_of_lt (Nat.mod_lt x Hy0.out))) Hs.out.2⟩, lH (by rw [gcd_swap]; exact Hg.out), HB⟩
   case measure =>
    show numOf _ _ < numOf _ _
    rw [numOf_eq HR.out]
    rw [show numOf wr _ = y from HN.out]
    exact Nat.mod_lt x Hy0.out
  ·
   have hy0 : y = 0 := sz_eq_zero.1 (by have := Hn.out; omega)
   subst hy0
   have HG2 : Hid (a.gcd b = x) := lH (by rw [← HG.out, Hg.out, Nat.gcd_zero_right])
   go_wp2
   go_ret
   exact ⟨_, rfl, by rw [HG2.out]; exact HX.out, Hbl.out⟩
theorem limbs_single {x : Nat} (h0 : 0 < x) (h : x < 4294967296) : limbs x = [x] := by
 rw [limbs_pos h0, Nat.mod_eq_of_lt h, Nat.div_eq_of_lt h, limbs_zero]
abbrev b1 (x : Int) : Obj := .cells #[.int .u32 x] 142
abbrev b2 (x y : Int) : Obj := .cells #[.int .u32 x, .int .u32 y] 142
abbrev b3 (x y z : Int) : Obj := .cells #[.int .u32 x, .int .u32 y, .int .u32 z] 142
theorem below1 {w w' : World} {o : Obj} (h : Below (w.alloc o).heap.size (w.alloc o) w') : Below w.heap.size w w' :=
 ((bR_ _ _).alloc (lR_ _) o).trans (h.mono (by simp))
def Is (n L : Nat) (w : World) (v : Value) : Prop := ∃ xs, Sl w v xs ∧ val xs = n ∧ xs.length ≤ L
def Can (n L : Nat) (w : World) (v : Value) : Prop := Num n w v ∧ sz n ≤ L
def CanE (n L : Nat) (err : Int) (w : World) (v : Value) : Prop := ∃ a, v = .tuple #[a, .int .i64 err] ∧ Can n L w a
def Can2E (n m L M : Nat) (err : Int) (w : World) (v : Value) : Prop := ∃ a b, v = .tuple #[a, b, .int .i64 err] ∧ Can n L w a ∧ Can m M w b
theorem Is.below {n L : Nat} {w w' : World} {v : Value} (h : Is n L w v) (hb : Below w.heap.size w w') : Is n L w' v :=
 let ⟨xs, h1, h2, h3⟩ := h; ⟨xs, h1.below hb, h2, h3⟩
theorem Can.is {n L : Nat} {w : World} {v : Value} (h : Can n L w v) : Is n L w v := ⟨limbs n, h.1, val_limbs n, h.2⟩
theorem Can.mono {n L M : Nat} {w : World} {v : Value} (h : Can n L w v) (hl : L ≤ M) : Can n M w v := ⟨h.1, tL_ h.2 hl⟩
theorem Is.mono {n L M : Nat} {w : World} {v : Value} (h : Is n L w v) (hl : L ≤ M) : Is n M w v := let ⟨xs, h1, h2, h3⟩ := h; ⟨xs, h1, h2, tL_ h3 hl⟩
theorem Is.sz_le {n L : Nat} {w : World} {v : Value} (h : Is n L w v) : sz n ≤ L := by
 obtain ⟨xs, ⟨_, _, _, _, _, _, _, hl, _⟩, rfl, h3⟩ := h
 exact tL_ (sz_val hl) h3
theorem make_is {a L : Nat} {u : Value} {w : World} (h : Is a L w u) : Calls Tryz.prog 156 #[u] w (Ret w (Can a L)) := by
 have hs := h.sz_le
 obtain ⟨xs, h, rfl, hl⟩ := h
 refine (make_any _ _ _ h).mono ?_
 rintro e w' ⟨v, rfl, hn, hb⟩
 exact ⟨v, rfl, ⟨hn, hs⟩, hb⟩
theorem rmake_is {a L : Nat} {u : Value} {w : World} (h : Is a L w u) : Calls Tryz.prog 128 #[u] w (Ret w (Can a L)) := by
 have hs := h.sz_le
 obtain ⟨xs, h, rfl, hl⟩ := h
 refine (rmake_any _ _ _ h).mono ?_
 rintro e w' ⟨v, rfl, hn, hb⟩
 exact ⟨v, rfl, ⟨hn, hs⟩, hb⟩
theorem add_is {a b L M : Nat} {u v : Value} {w : World} (h : Is a L w u) (h' : Is b M w v) (hL : L ≤ 4294967296) (hM : M ≤ 4294967296) :
  Calls Tryz.prog 173 #[u, v] w (Ret w (Can (a + b) (max L M + 1))) := by
 have hs := h.sz_le
 have hs' := h'.sz_le
 obtain ⟨xs, h, rfl, hl⟩ := h
 obtain ⟨ys, h', rfl, hl'⟩ := h'
 refine (add_any _ _ _ _ _ h h' (by omega) (by omega)).mono ?_
 rintro e w' ⟨v, rfl, hn, hb⟩
 exact ⟨v, rfl, ⟨hn, tL_ (sz_add _ _) (by omega)⟩, hb⟩
theorem radd_is {a b L M : Nat} {u v : Value} {w : World} (h : Is a L w u) (h' : Is b M w v) (hL : L ≤ 4294967296) (hM : M ≤ 4294967296) :
  Calls Tryz.prog 168 #[u, v] w (Ret w (Can (a + b) (max L M + 1))) := by
 have hs := h.sz_le
 have hs' := h'.sz_le
 obtain ⟨xs, h, rfl, hl⟩ := h
 obtain ⟨ys, h', rfl, hl'⟩ := h'
 refine (radd_any _ _ _ _ _ h h' (by omega) (by omega)).mono ?_
 rintro e w' ⟨v, rfl, hn, hb⟩
 exact ⟨v, rfl, ⟨hn, tL_ (sz_add _ _) (by omega)⟩, hb⟩
theorem mul_is {a b L M : Nat} {u v : Value} {w : World} (h : Is a L w u) (h' : Is b M w v) (hL : L ≤ 4294967296) (hM : M ≤ 4294967296) :
  Calls Tryz.prog 130 #[u, v] w (Ret w (Can (a * b) (L + M))) := by
 have hs := h.sz_le
 have hs' := h'.sz_le
 obtain ⟨xs, h, rfl, hl⟩ := h
 obtain ⟨ys, h', rfl, hl'⟩ := h'
 refine (mul_any _ _ _ _ _ h h' (by omega) (by omega)).mono ?_
 rintro e w' ⟨v, rfl, hn, hb⟩
 exact ⟨v, rfl, ⟨hn, tL_ (sz_mul _ _) (by omega)⟩, hb⟩
theorem rmul_is {a b L M : Nat} {u v : Value} {w : World} (h : Is a L w u) (h' : Is b M w v) (hL : L ≤ 4294967296) (hM : M ≤ 4294967296) :
  Calls Tryz.prog 138 #[u, v] w (Ret w (Can (a * b) (L + M))) := by
 have hs := h.sz_le
 have hs' := h'.sz_le
 obtain ⟨xs, h, rfl, hl⟩ := h
 obtain ⟨ys, h', rfl, hl'⟩ := h'
 refine (rmul_any _ _ _ _ _ h h' (by omega) (by omega)).mono ?_
 rintro e w' ⟨v, rfl, hn, hb⟩
 exact ⟨v, rfl, ⟨hn, tL_ (sz_mul _ _) (by omega)⟩, hb⟩
theorem sub_is {a b L M : Nat} {u v : Value} {w : World} (h : Is a L w u) (h' : Is b M w v) (hL : L ≤ 4294967296) :
  Calls Tryz.prog 174 #[u, v] w (Ret w (CanE (a - b) L (subErr a b))) := by
 have hs := h.sz_le
 obtain ⟨xs, h, rfl, hl⟩ := h
 obtain ⟨ys, h', rfl, hl'⟩ := h'
 refine (sub_any _ _ _ _ _ h h' (by omega)).mono ?_
 rintro e w' ⟨v, rfl, ⟨d, rfl, hn⟩, hb⟩
 exact ⟨_, rfl, ⟨_, rfl, hn, tL_ (sz_sub _ _) hs⟩, hb⟩
theorem rsub_is {a b L M : Nat} {u v : Value} {w : World} (h : Is a L w u) (h' : Is b M w v) (hL : L ≤ 4294967296) :
  Calls Tryz.prog 170 #[u, v] w (Ret w (CanE (a - b) L (subErr a b))) := by
 have hs := h.sz_le
 obtain ⟨xs, h, rfl, hl⟩ := h
 obtain ⟨ys, h', rfl, hl'⟩ := h'
 refine (rsub_any _ _ _ _ _ h h' (by omega)).mono ?_
 rintro e w' ⟨v, rfl, ⟨d, rfl, hn⟩, hb⟩
 exact ⟨_, rfl, ⟨_, rfl, hn, tL_ (sz_sub _ _) hs⟩, hb⟩
theorem dmR_le (a b : Nat) : dmR a b ≤ a := by unfold dmR; split; omega; exact Nat.mod_le _ _
theorem divmod_is {a b L M : Nat} {u v : Value} {w : World} (h : Is a L w u) (h' : Is b M w v) (hL : L ≤ 4294967296) :
  Calls Tryz.prog 159 #[u, v] w (Ret w (Can2E (a / b) (dmR a b) L L (dmE b))) := by
 have hs := h.sz_le
 obtain ⟨xs, h, rfl, hl⟩ := h
 obtain ⟨ys, h', rfl, hl'⟩ := h'
 refine (divmod_any _ _ _ _ _ h h' (by omega)).mono ?_
 rintro e w' ⟨v, rfl, ⟨q, r, rfl, hn, hm⟩, hb⟩
 exact ⟨_, rfl, ⟨_, _, rfl, ⟨hn, tL_ (sz_div _ _) hs⟩, hm, tL_ (sz_mono (dmR_le _ _)) hs⟩, hb⟩
theorem cmp_is {a b L M : Nat} {u v : Value} {w : World} (k : Int) (h : Is a L w u) (h' : Is b M w v) (hk : cmpN a b = k) :
  Calls Tryz.prog 121 #[u, v] w (Ret w (Val (.int .i64 k))) := by
 obtain ⟨xs, h, rfl, hl⟩ := h
 obtain ⟨ys, h', rfl, hl'⟩ := h'
 rw [← hk]
 exact cmp_any _ _ _ _ _ h h'
theorem gcd_is {a b L M : Nat} {u v : Value} {w : World} (h : Is a L w u) (h' : Is b M w v) (hL : L ≤ 4294967296) (hM : M ≤ 4294967296) :
  Calls Tryz.prog 158 #[u, v] w (Ret w (Num (Nat.gcd a b))) := by
 obtain ⟨xs, h, rfl, hl⟩ := h
 obtain ⟨ys, h', rfl, hl'⟩ := h'
 exact gcd_any _ _ _ _ _ h h' (by omega) (by omega)
theorem rgcd_is {a b L M : Nat} {u v : Value} {w : World} (h : Is a L w u) (h' : Is b M w v) (hL : L ≤ 2147483648) (hM : M ≤ 2147483648) :
  Calls Tryz.prog 126 #[u, v] w (Ret w (Num (Nat.gcd a b))) := by
 obtain ⟨xs, h, rfl, hl⟩ := h
 obtain ⟨ys, h', rfl, hl'⟩ := h'
 exact rgcd_any _ _ _ _ _ h h' (by omega) (by omega)
theorem wf_u32 {n : Int} (h : (Lit.int .u32 n).wf = true) : 0 ≤ n ∧ n < 4294967296 := by
 simp [Lit.wf, IntKind.min, IntKind.max, IntKind.signed, IntKind.bits] at h
 omega
theorem is_of_row {a : Option Addr} {n c : Nat} {zs : List Int} {w : World} (hn : n ≤ 1099511627776)
  (h : (a = none ∧ n = 0 ∧ c = 0 ∧ zs = []) ∨
   ∃ x, a = some x ∧ n ≤ c ∧ c ≤ maxLen ∧ zs.length = c ∧ (∀ i, i < zs.length → w.cell? (x.add i) = some (.int .u32 (zs.getD i 0))) ∧ ∀ n ∈ zs, (Lit.int .u32 n).wf = true) :
  ∃ xs, Sl w (.slice a n c) xs ∧ xs.length = n := by
 rcases h with ⟨rfl, rfl, rfl, -⟩ | ⟨x, rfl, hnc, -, hl, hc, hw⟩
 ·
  exact ⟨[], ⟨_, _, _, rfl, rfl, lR_ _, hn, lims_nil, fun h => absurd h (by decide)⟩, rfl⟩
 ·
  have hlen : ((zs.take n).map Int.toNat).length = n := by simp; omega
  refine ⟨(zs.take n).map Int.toNat, ⟨_, _, _, rfl, hlen, hnc, hn, ?_, ?_⟩, hlen⟩
  ·
   intro y hy
   obtain ⟨z, hz, rfl⟩ := List.mem_map.1 hy
   have := wf_u32 (hw z (List.mem_of_mem_take hz))
   omega
  ·
   intro h0
   have c0 := hc 0 (by omega)
   rw [show x.add 0 = x by rfl] at c0
   obtain ⟨bl, off, spot⟩ := x
   have hs : spot = none := by
    unfold World.cell? at c0
    split at c0
    ·
     split at c0
     ·
      cases c0
     ·
      next h => simpa using h
    ·
     cases c0
   subst hs
   refine ⟨bl, off, rfl, ?_, ?_⟩
   ·
    by_cases hb : bl < w.heap.size
    ·
     exact hb
    ·
     exfalso
     unfold World.cell? at c0
     rw [show w.heap[bl]? = none by simpa using hb] at c0
     cases c0
   ·
    intro i hi
    have hci := hc i (by omega)
    have hg : zs.getD i 0 ∈ zs := by
     rw [List.getD_eq_getElem?_getD, List.getElem?_eq_getElem (by omega)]
     exact List.getElem_mem _
    have hwz := wf_u32 (hw _ hg)
    have he : ((((zs.take n).map Int.toNat).getD i 0 : Nat) : Int) = zs.getD i 0 := by
     have : ((zs.take n).map Int.toNat).getD i 0 = (zs.getD i 0).toNat := by
      simp [List.getD, hi, List.getElem?_map]
      cases zs[i]? <;> rfl
     rw [this]; omega
    rw [he, ← hci]
    congr 1
    unfold Addr.add
    split
    ·
     next h => subst h; rfl
    ·
     rfl
def Row (w : World) (v : Value) (n : Nat) : Prop := n ≤ 1099511627776 → ∃ xs, Sl w v xs ∧ xs.length = n
theorem sub_is2 {a b L M : Nat} {u v : Value} {w : World} {e : Int} (he : subErr a b = e) (h : Is a L w u) (h' : Is b M w v) (hL : L ≤ 4294967296) :
  Calls Tryz.prog 174 #[u, v] w (Ret w (CanE (a - b) L e)) := by rw [← he]; exact sub_is h h' hL
theorem rsub_is2 {a b L M : Nat} {u v : Value} {w : World} {e : Int} (he : subErr a b = e) (h : Is a L w u) (h' : Is b M w v) (hL : L ≤ 4294967296) :
  Calls Tryz.prog 170 #[u, v] w (Ret w (CanE (a - b) L e)) := by rw [← he]; exact rsub_is h h' hL
theorem divmod_pos {a b L M : Nat} {u v : Value} {w : World} (hb : 0 < b) (h : Is a L w u) (h' : Is b M w v) (hL : L ≤ 4294967296) :
  Calls Tryz.prog 159 #[u, v] w (Ret w (Can2E (a / b) (a % b) L L 0)) := by
 have := divmod_is h h' hL
 rwa [dmR_pos hb, dmE_pos hb] at this
theorem gcd_le (a b : Nat) : Nat.gcd a b ≤ max a b := by
 rcases eP_ a with rfl | h
 ·
  simp
 ·
  have := Nat.gcd_le_left b h
  omega
theorem sz_gcd {a b L M : Nat} (ha : sz a ≤ L) (hb : sz b ≤ M) : sz (Nat.gcd a b) ≤ max L M := by
 have h := sz_mono (gcd_le a b)
 rcases Nat.le_total a b with hab | hab
 ·
  rw [Nat.max_eq_right hab] at h; omega
 ·
  rw [Nat.max_eq_left hab] at h; omega
theorem gcd_can {a b L M : Nat} {u v : Value} {w : World} (h : Is a L w u) (h' : Is b M w v) (hL : L ≤ 2147483648) (hM : M ≤ 2147483648) :
  Calls Tryz.prog 158 #[u, v] w (Ret w (Can (Nat.gcd a b) (max L M))) := by
 have hs := sz_gcd h.sz_le h'.sz_le
 refine (gcd_is h h' (by omega) (by omega)).mono ?_
 rintro e w' ⟨v, rfl, hn, hb⟩
 exact ⟨_, rfl, ⟨hn, hs⟩, hb⟩
theorem rgcd_can {a b L M : Nat} {u v : Value} {w : World} (h : Is a L w u) (h' : Is b M w v) (hL : L ≤ 2147483648) (hM : M ≤ 2147483648) :
  Calls Tryz.prog 126 #[u, v] w (Ret w (Can (Nat.gcd a b) (max L M))) := by
 have hs := sz_gcd h.sz_le h'.sz_le
 refine (rgcd_is h h' hL hM).mono ?_
 rintro e w' ⟨v, rfl, hn, hb⟩
 exact ⟨_, rfl, ⟨hn, hs⟩, hb⟩
theorem valid_sl {xs : List Nat} {B : Bool} {u : Value} {w : World} (hB : canon xs = B) (h : Sl w u xs) : Calls Tryz.prog 152 #[u] w (Ret w (Val (.bool B))) := by rw [← hB]; exact valid_any _ _ _ h
theorem of_can {x : Nat} {w : World} (hx : x < 18446744073709551616) : Calls Tryz.prog 175 #[.int .u64 (x : Int)] w (Ret w (Can x 2)) := by
 refine (of_any x w hx).mono ?_
 rintro e w' ⟨v, rfl, hn, hb⟩
 exact ⟨_, rfl, ⟨hn, sz_le (by simpa using hx)⟩, hb⟩
theorem rof_can {x : Nat} {w : World} (hx : x < 18446744073709551616) : Calls Tryz.prog 97 #[.int .u64 (x : Int)] w (Ret w (Can x 2)) := by
 refine (rof_any x w hx).mono ?_
 rintro e w' ⟨v, rfl, hn, hb⟩
 exact ⟨_, rfl, ⟨hn, sz_le (by simpa using hx)⟩, hb⟩
def Box (w : World) (g : Nat) (t : TypeId) (cs : Array Value) : Prop := w.heap[g]? = some (.cells cs t (0, 0))
theorem Box.lt {w : World} {g : Nat} {t : TypeId} {cs : Array Value} (h : Box w g t cs) : g < w.heap.size := lt_of_block h
theorem Box.new (w : World) (t : TypeId) (cs : Array Value) : Box (w.alloc (.cells cs t)) w.heap.size t cs :=
 heap_alloc_new w _
theorem Box.newAt (w : World) (t : TypeId) (cs : Array Value) {n : Nat} (hn : n = w.heap.size) : Box (w.alloc (.cells cs t)) n t cs := by subst hn; exact Box.new _ _ _
theorem Box.alloc {w : World} {g : Nat} {t : TypeId} {cs : Array Value} (h : Box w g t cs) (o : Obj) : Box (w.alloc o) g t cs :=
 (Below.heap_alloc w o g h.lt).trans h
theorem Box.drew {w : World} {g : Nat} {t : TypeId} {cs : Array Value} (h : Box w g t cs) : Box w.drew g t cs := h
theorem Box.below {w w' : World} {g B : Nat} {t : TypeId} {cs : Array Value} (h : Box w g t cs) (hb : Below B w w') (hg : g < B) : Box w' g t cs := (hb.block g hg).trans h
theorem Box.call {w w' : World} {g : Nat} {t : TypeId} {cs : Array Value} (h : Box w g t cs) (hb : Below w.heap.size w w') : Box w' g t cs := h.below hb h.lt
theorem Box.cell {w : World} {g : Nat} {t : TypeId} {cs : Array Value} (h : Box w g t cs) (i : Nat) {v : Value} (hv : cs[i]? = some v) : w.cell? ⟨g, i, none⟩ = some v := by
 unfold Box at h; simp [World.cell?, h, hv]
theorem Box.free {w : World} {g : Nat} {t : TypeId} {cs : Array Value} (h : Box w g t cs) (i : Nat) : w.frozen? ⟨g, i, none⟩ = false := by
 unfold Box at h; simp [World.frozen?, h]
theorem Box.other {w : World} {g b i : Nat} {t : TypeId} {cs : Array Value} {u : Value} (h : Box w g t cs) (hne : g ≠ b) : Box (w.setCell ⟨b, i, none⟩ u) g t cs :=
 (Below.heap_setCell w _ _ g hne).trans h
theorem Box.set {w : World} {g i : Nat} {t : TypeId} {cs : Array Value} {u : Value} (h : Box w g t cs) : Box (w.setCell ⟨g, i, none⟩ u) g t (cs.setIfInBounds i u) := by
 have hlt := h.lt
 have h' : w.heap[g] = .cells cs t (0, 0) := by unfold Box at h; simpa [Array.getElem?_eq_getElem hlt] using h
 show (w.heap.modify g _)[g]? = _
 rw [Array.getElem?_eq_getElem (by simpa using hlt), Array.getElem_modify_self, h']
 rfl
theorem Box.set2 {w : World} {g : Nat} {t : TypeId} {x y x' y' : Value} (h : Box w g t #[x, y]) : Box ((w.setCell ⟨g, 0, none⟩ x').setCell ⟨g, 1, none⟩ y') g t #[x', y'] := (h.set (i := 0)).set (i := 1)
theorem Box.set3 {w : World} {g : Nat} {t : TypeId} {x y z x' y' z' : Value} (h : Box w g t #[x, y, z]) : Box (((w.setCell ⟨g, 0, none⟩ x').setCell ⟨g, 1, none⟩ y').setCell ⟨g, 2, none⟩ z') g t #[x', y', z'] := ((h.set (i := 0)).set (i := 1)).set (i := 2)
theorem Box.far2 {w : World} {g b : Nat} {t : TypeId} {cs : Array Value} {x y : Value} (h : Box w g t cs) (hne : g ≠ b) : Box ((w.setCell ⟨b, 0, none⟩ x).setCell ⟨b, 1, none⟩ y) g t cs := (h.other hne).other hne
theorem Box.far3 {w : World} {g b : Nat} {t : TypeId} {cs : Array Value} {x y z : Value} (h : Box w g t cs) (hne : g ≠ b) : Box (((w.setCell ⟨b, 0, none⟩ x).setCell ⟨b, 1, none⟩ y).setCell ⟨b, 2, none⟩ z) g t cs := ((h.other hne).other hne).other hne
theorem Box.c2 {w : World} {g : Nat} {t : TypeId} {x y : Value} (h : Box w g t #[x, y]) : w.cell? ⟨g, 0, none⟩ = some x ∧ w.cell? ⟨g, 1, none⟩ = some y ∧ w.frozen? ⟨g, 0, none⟩ = false ∧ w.frozen? ⟨g, 1, none⟩ = false :=
 ⟨h.cell 0 rfl, h.cell 1 rfl, h.free 0, h.free 1⟩
theorem Box.c3 {w : World} {g : Nat} {t : TypeId} {x y z : Value} (h : Box w g t #[x, y, z]) :
  w.cell? ⟨g, 0, none⟩ = some x ∧ w.cell? ⟨g, 1, none⟩ = some y ∧ w.cell? ⟨g, 2, none⟩ = some z ∧ w.frozen? ⟨g, 0, none⟩ = false ∧ w.frozen? ⟨g, 1, none⟩ = false ∧ w.frozen? ⟨g, 2, none⟩ = false :=
 ⟨h.cell 0 rfl, h.cell 1 rfl, h.cell 2 rfl, h.free 0, h.free 1, h.free 2⟩
def Keep (w w' : World) : Prop := ∀ v xs, Sl w v xs → Sl w' v xs
theorem Keep.trans {a b c : World} (h : Keep a b) (k : Keep b c) : Keep a c := fun v xs s => k v xs (h v xs s)
theorem Keep.call {w w' : World} (hb : Below w.heap.size w w') : Keep w w' := fun _ _ h => h.below hb
abbrev kC := @Keep.call
theorem Keep.alloc (w : World) (o : Obj) : Keep w (w.alloc o) := kC ((bR_ _ _).alloc (lR_ _) o)
theorem Keep.drew (w : World) : Keep w w.drew := fun _ _ h => h.drew
theorem Keep.poke {w : World} {p : Addr} {x u : Value} (hp : w.cell? p = some x) (hx : ∀ k n, x ≠ .int k n) : Keep w (w.setCell p u) := by
 rintro v xs ⟨ad, n, cap, hv, hl, hc, hm, hlm, hs⟩
 refine ⟨ad, n, cap, hv, hl, hc, hm, hlm, fun h0 => ?_⟩
 obtain ⟨b, off, ha, hbs, hcell⟩ := hs h0
 refine ⟨b, off, ha, by simpa using hbs, fun i hi => ?_⟩
 have hne : p ≠ ⟨b, off + i, none⟩ := by
  rintro rfl
  rw [hcell i hi] at hp
  injection hp with hp
  exact hx _ _ hp.symm
 exact (World.cell?_setCell_other _ _ _ _ hne).trans (hcell i hi)
theorem Sl.keep {w w' : World} {v : Value} {xs : List Nat} (h : Sl w v xs) (k : Keep w w') : Sl w' v xs := k _ _ h
def NoInt (v : Value) : Prop := ∀ k n, v ≠ .int k n
theorem NoInt.bool (b : Bool) : NoInt (.bool b) := fun _ _ h => by cases h
abbrev nB_ := @NoInt.bool
theorem NoInt.slice (a : Option Addr) (n c : Nat) : NoInt (.slice a n c) := fun _ _ h => by cases h
abbrev nS_ := @NoInt.slice
theorem Keep.set2 {w : World} {g : Nat} {t : TypeId} {x y x' y' : Value} (h : Box w g t #[x, y]) (hx : NoInt x) (hy : NoInt y) : Keep w ((w.setCell ⟨g, 0, none⟩ x').setCell ⟨g, 1, none⟩ y') :=
 (Keep.poke h.c2.1 hx).trans (Keep.poke ((h.set (i := 0) (u := x')).cell 1 rfl) hy)
theorem Keep.set3 {w : World} {g : Nat} {t : TypeId} {x y z x' y' z' : Value} (h : Box w g t #[x, y, z]) (hx : NoInt x) (hy : NoInt y) (hz : NoInt z) :
  Keep w (((w.setCell ⟨g, 0, none⟩ x').setCell ⟨g, 1, none⟩ y').setCell ⟨g, 2, none⟩ z') :=
 ((Keep.poke h.c3.1 hx).trans (Keep.poke ((h.set (i := 0) (u := x')).cell 1 rfl) hy)).trans (Keep.poke (((h.set (i := 0) (u := x')).set (i := 1) (u := y')).cell 2 rfl) hz)
theorem below_set2 {B : Nat} {w0 w : World} {g : Nat} {u u' : Value} (h : Below B w0 w) (hg : B ≤ g) : Below B w0 ((w.setCell ⟨g, 0, none⟩ u).setCell ⟨g, 1, none⟩ u') := (h.setCell hg _).setCell hg _
theorem below_set3 {B : Nat} {w0 w : World} {g : Nat} {u u' u'' : Value} (h : Below B w0 w) (hg : B ≤ g) : Below B w0 (((w.setCell ⟨g, 0, none⟩ u).setCell ⟨g, 1, none⟩ u').setCell ⟨g, 2, none⟩ u'') := ((h.setCell hg _).setCell hg _).setCell hg _
theorem below_call {w0 W W' : World} (h : Below w0.heap.size w0 W) (hb : Below W.heap.size W W') : Below w0.heap.size w0 W' := h.trans (hb.mono h.size)
abbrev bC := @below_call
section
variable {P : Program} {ops : Array Oper} {Q : Exit → Act → World → Prop} {md : Region.Mode}
def left (L : Array Bool) : Nat := L.toList.countP (fun b => !b)
theorem left_set {L : Array Bool} {i : Nat} (h : L[i]? = some false) : left (L.setIfInBounds i true) + 1 = left L := by
 obtain ⟨l⟩ := L
 simp only [left, sI]
 simp only [List.getElem?_toArray] at h
 induction l generalizing i with
 | nil => simp at h
 | cons b l ih =>
   cases i with
   | zero => simp at h; subst h; simp
   | succ i => simp at h; have := ih h; simp only [sS, List.countP_cons]; omega
theorem left_pos {L : Array Bool} {i : Nat} (h : L[i]? = some false) : left L ≠ 0 := by have := left_set h; omega
theorem left_new (n : Nat) : left (Array.replicate n false) = n := by
 simp only [left]
 rw [show (Array.replicate n false).toList = List.replicate n false by simp, List.countP_replicate]; simp
structure Fl where
 i : Nat
 d : Nat
 t : TypeId
 z : Array Value
structure Rel (F : List Fl) (B : Nat) (L : Array Bool) (a : Act) (L' : Array Bool) (a' : Act) (w : World) : Prop where
 size : a'.tmps.size = a.tmps.size
 defers : a'.defers = a.defers
 slot : ∀ d, (∀ f ∈ F, f.d ≠ d) → a'.tmps[d]? = a.tmps[d]?
 listed : ∀ j, (∀ f ∈ F, f.i ≠ j) → L'[j]? = L[j]?
 no : ∀ f ∈ F, L[f.i]? = some false
 yet : ∀ f ∈ F, L'[f.i]? = some false ∨ L'[f.i]? = some true
 made : ∀ f ∈ F, L'[f.i]? = some true → ∃ g, a'.tmps[f.d]? = some (.pointer (some ⟨g, 0, none⟩)) ∧ B ≤ g ∧ Box w g f.t f.z
 apart : ∀ f ∈ F, ∀ f' ∈ F, f.i ≠ f'.i → L'[f.i]? = some true → L'[f'.i]? = some true → a'.tmps[f.d]? ≠ a'.tmps[f'.d]?
structure Flok (P : Program) (ops : Array Oper) (md : Region.Mode) (F : List Fl) (n : Nat) : Prop where
 op : ∀ f ∈ F, ∃ o, ops[f.i]? = some o ∧ o.dst = some f.d ∧ o.guard = none ∧ (∀ e ∈ o.after, Region.binds md e = false) ∧
  ∀ (ρ : Operand → Value) (w : World), (execOp ρ o).run P w = .ok (.value (.pointer (some ⟨w.heap.size, 0, none⟩))) (w.alloc (.cells f.z f.t))
 inj : ∀ f ∈ F, ∀ f' ∈ F, f.i = f'.i → f = f'
 injd : ∀ f ∈ F, ∀ f' ∈ F, f.d = f'.d → f = f'
 slot : ∀ f ∈ F, f.d < n
def SE (W : World) (E : List Nat) (x : World) : Prop := W.heap.size ≤ x.heap.size ∧ ∀ k, k < W.heap.size → k ∉ E → x.heap[k]? = W.heap[k]?
theorem SE.of {W x : World} {E : List Nat} (h : Below W.heap.size W x) : SE W E x := ⟨h.size, fun k hk _ => h.block k hk⟩
theorem SE.grow {W x y : World} {E : List Nat} (h : SE W E x) (hb : Below x.heap.size x y) : SE W E y :=
 ⟨tL_ h.1 hb.size, fun k hk hE => (hb.block k (Nat.lt_of_lt_of_le hk h.1)).trans (h.2 k hk hE)⟩
theorem SE.store {W x : World} {E : List Nat} (h : SE W E x) {g i : Nat} {v : Value} (hg : g ∈ E ∨ W.heap.size ≤ g) : SE W E (x.setCell ⟨g, i, none⟩ v) :=
 ⟨by simpa using h.1, fun k hk hE => (Below.heap_setCell x _ _ k (fun e => hg.elim (fun h1 => hE (e ▸ h1)) (fun h1 => absurd hk (Nat.not_lt.2 (e ▸ h1))))).trans (h.2 k hk hE)⟩
theorem SE.store2 {W x : World} {E : List Nat} (h : SE W E x) {g : Nat} {u v : Value} (hg : g ∈ E ∨ W.heap.size ≤ g) : SE W E ((x.setCell ⟨g, 0, none⟩ u).setCell ⟨g, 1, none⟩ v) := (h.store hg).store hg
theorem SE.store3 {W x : World} {E : List Nat} (h : SE W E x) {g : Nat} {t u v : Value} (hg : g ∈ E ∨ W.heap.size ≤ g) : SE W E (((x.setCell ⟨g, 0, none⟩ t).setCell ⟨g, 1, none⟩ u).setCell ⟨g, 2, none⟩ v) := ((h.store hg).store hg).store hg
theorem Box.se {W x : World} {E : List Nat} {g : Nat} {t : TypeId} {cs : Array Value} (h : SE W E x) (X : Box W g t cs) (hn : g ∉ E) : Box x g t cs := (h.2 g X.lt hn).trans X
theorem notin0 {a : Nat} : a ∉ ([] : List Nat) := List.not_mem_nil
theorem notin1 {a b : Nat} (h : a ≠ b) : a ∉ [b] := fun k => h (List.mem_singleton.1 k)
theorem notin2 {a b c : Nat} (h : a ≠ b) (h' : a ≠ c) : a ∉ [b, c] := fun k => (List.mem_cons.1 k).elim h fun k => h' (List.mem_singleton.1 k)
theorem in1 {b : Nat} {p : Prop} : b ∈ [b] ∨ p := .inl List.mem_cons_self
theorem in21 {b c : Nat} {p : Prop} : b ∈ [b, c] ∨ p := .inl List.mem_cons_self
theorem in22 {b c : Nat} {p : Prop} : c ∈ [b, c] ∨ p := .inl (List.mem_cons_of_mem _ List.mem_cons_self)
def Good (P : Program) (md : Region.Mode) (ops : Array Oper) (Q : Exit → Act → World → Prop) (W : World) (E : List Nat) (F : List Fl) (L : Array Bool) (a : Act) (w : World) : Prop :=
 SE W E w → ∀ L' a' w', Below w.heap.size w w' → Rel F W.heap.size L a L' a' w' →
  wpAnyH P md ops Q (SE W E) (left L') L' a' w'
variable {W : World} {E : List Nat} {F : List Fl} {L : Array Bool} {a : Act} {w : World} {n : Nat}
theorem Rel.grow {L' : Array Bool} {a' : Act} {w w' : World} {B : Nat} (h : Rel F B L a L' a' w) (hb : Below w.heap.size w w') : Rel F B L a L' a' w' :=
 { h with made := fun f hf hl => let ⟨g, h1, h2, h3⟩ := h.made f hf hl; ⟨g, h1, h2, h3.call hb⟩ }
theorem Rel.alloc (ok : Flok P ops md F a.tmps.size) {B : Nat} {L' : Array Bool} {a' : Act} {w : World} (h : Rel F B L a L' a' w) (hB : B ≤ w.heap.size) {f : Fl} (hf : f ∈ F) (hl : L'[f.i]? = some false) :
  Rel F B L a (L'.setIfInBounds f.i true) (a'.put (some f.d) (.pointer (some ⟨w.heap.size, 0, none⟩))) (w.alloc (.cells f.z f.t)) := by
 have hlt : f.i < L'.size := (Array.getElem?_eq_some_iff.1 hl).1
 have hd : f.d < a'.tmps.size := by rw [h.size]; exact ok.slot f hf
 have old : ∀ f' ∈ F, f' ≠ f → (L'.setIfInBounds f.i true)[f'.i]? = L'[f'.i]? ∧ (a'.put (some f.d) (.pointer (some ⟨w.heap.size, 0, none⟩))).tmps[f'.d]? = a'.tmps[f'.d]? := by
  intro f' hf' hne
  refine ⟨Array.getElem?_setIfInBounds_ne fun e => hne (ok.inj f' hf' f hf e.symm), Array.getElem?_setIfInBounds_ne fun e => hne (ok.injd f' hf' f hf e.symm)⟩
 have self : (L'.setIfInBounds f.i true)[f.i]? = some true := by simp [hlt]
 have selfd : (a'.put (some f.d) (.pointer (some ⟨w.heap.size, 0, none⟩))).tmps[f.d]? = some (.pointer (some ⟨w.heap.size, 0, none⟩)) := by simp [Act.put, hd]
 have mk : ∀ f' ∈ F, (L'.setIfInBounds f.i true)[f'.i]? = some true → ∃ g, (a'.put (some f.d) (.pointer (some ⟨w.heap.size, 0, none⟩))).tmps[f'.d]? = some (.pointer (some ⟨g, 0, none⟩)) ∧ B ≤ g ∧ Box (w.alloc (.cells f.z f.t)) g f'.t f'.z := by
  intro f' hf' hl'
  by_cases e : f' = f
  ·
   subst e; exact ⟨_, selfd, hB, Box.new _ _ _⟩
  ·
   obtain ⟨h1, h2⟩ := old f' hf' e
   rw [h1] at hl'
   obtain ⟨g, k1, k2, k3⟩ := h.made f' hf' hl'
   exact ⟨g, by rw [h2]; exact k1, k2, k3.alloc _⟩
 refine ⟨by simp [Act.put, h.size], h.defers, ?_, ?_, h.no, ?_, mk, ?_⟩
 ·
  intro d hnd
  rw [← h.slot d hnd]
  exact Array.getElem?_setIfInBounds_ne (hnd f hf)
 ·
  intro j hj
  rw [← h.listed j hj]
  exact Array.getElem?_setIfInBounds_ne (hj f hf)
 ·
  intro f' hf'
  by_cases e : f' = f
  ·
   subst e; exact .inr self
  ·
   rw [(old f' hf' e).1]; exact h.yet f' hf'
 ·
  intro f1 hf1 f2 hf2 hne l1 l2 he
  by_cases e1 : f1 = f
  ·
   subst e1
   have e2 : f2 ≠ f1 := fun e => hne (by rw [e])
   obtain ⟨h1, h2⟩ := old f2 hf2 e2
   rw [h1] at l2
   obtain ⟨g, k1, k2, k3⟩ := h.made f2 hf2 l2
   rw [selfd, h2, k1] at he
   injection he with he; injection he with he; injection he with he; injection he with he
   have := k3.lt
   omega
  ·
   by_cases e2 : f2 = f
   ·
    subst e2
    obtain ⟨h1, h2⟩ := old f1 hf1 e1
    rw [h1] at l1
    obtain ⟨g, k1, k2, k3⟩ := h.made f1 hf1 l1
    rw [selfd, h2, k1] at he
    injection he with he; injection he with he; injection he with he; injection he with he
    have := k3.lt
    omega
   ·
    obtain ⟨h1, h1'⟩ := old f1 hf1 e1
    obtain ⟨h2, h2'⟩ := old f2 hf2 e2
    rw [h1] at l1; rw [h2] at l2; rw [h1', h2'] at he
    exact h.apart f1 hf1 f2 hf2 hne l1 l2 he
theorem getD_of {L : Array Bool} {j : Nat} {b : Bool} (h : L[j]? = some b) (d : Bool) : L.getD j d = b := by
 simp [Array.getD_eq_getD_getElem?, h]
theorem Rel.ready {B : Nat} {L' : Array Bool} {a' : Act} {w : World} (h : Rel F B L a L' a' w) {i : Nat} (hi : i ∈ Region.ready md ops L) (hn : ∀ f ∈ F, f.i ≠ i) : i ∈ Region.ready md ops L' := by
 rw [mem_ready] at *
 obtain ⟨h0, o, ho, hall⟩ := hi
 refine ⟨by rw [← h0]; simp only [Array.getD_eq_getD_getElem?, h.listed i hn], o, ho, fun e he hb => ?_⟩
 have h1 := hall e he hb
 by_cases hf : ∃ f ∈ F, f.i = e.on
 ·
  obtain ⟨f, hf, e1⟩ := hf
  rw [← e1, getD_of (h.no f hf)] at h1; cases h1
 ·
  rw [← h1]; simp only [Array.getD_eq_getD_getElem?]; rw [h.listed e.on fun f hg e1 => hf ⟨f, hg, e1⟩]
theorem float_core (ok : Flok P ops md F a.tmps.size)
  (hfull : ∀ L' a' w', Below w.heap.size w w' → Rel F W.heap.size L a L' a' w' → (∀ f ∈ F, L'[f.i]? = some true) → wpAnyH P md ops Q (SE W E) (left L') L' a' w')
  (hpart : ∀ L' a' w', Below w.heap.size w w' → Rel F W.heap.size L a L' a' w' → ∀ i ∈ Region.ready md ops L', (∀ f ∈ F, f.i ≠ i) → (∃ f ∈ F, L'[f.i]? = some false) →
   wpOp P ops Q i (fun a1 w1 => SE W E w1 ∧ wpAnyH P md ops Q (SE W E) (left L' - 1) (L'.setIfInBounds i true) a1 w1) a' w') : Good P md ops Q W E F L a w := by
 intro hW L' a' w' hb hr
 generalize hn : left L' = n
 induction n generalizing L' a' w' with
 | zero =>
   have hall : ∀ f ∈ F, L'[f.i]? = some true := fun f hf => (hr.yet f hf).resolve_left fun h => left_pos h hn
   have := hfull L' a' w' hb hr hall
   rwa [hn] at this
 | succ n ih =>
   by_cases hp : ∃ f ∈ F, L'[f.i]? = some false
   ·
    obtain ⟨f, hf, hl⟩ := hp
    have rdy : f.i ∈ Region.ready md ops L' := by
     obtain ⟨o, ho, _, _, haf, _⟩ := ok.op f hf
     exact mem_ready.2 ⟨getD_of hl _, o, ho, fun e he hb => absurd hb (by rw [haf e he]; simp)⟩
    refine ⟨fun h0 => (by rw [h0] at rdy; cases rdy), fun i hi => ?_⟩
    by_cases hif : ∃ f' ∈ F, f'.i = i
    ·
     obtain ⟨f', hf', rfl⟩ := hif
     have hl' : L'[f'.i]? = some false := by
      rcases hr.yet f' hf' with h | h
      ·
       exact h
      ·
       have := (mem_ready.1 hi).1; rw [getD_of h] at this; cases this
     obtain ⟨o, ho, hd, hg, haf, hrun⟩ := ok.op f' hf'
     have hB : W.heap.size ≤ w'.heap.size := tL_ hW.1 hb.size
     have hb2 : Below w.heap.size w (w'.alloc (.cells f'.z f'.t)) := hb.alloc hb.size _
     have key := ih (L'.setIfInBounds f'.i true) (a'.put (some f'.d) (.pointer (some ⟨w'.heap.size, 0, none⟩))) (w'.alloc (.cells f'.z f'.t)) hb2 (hr.alloc ok hB hf' hl') (by have := left_set hl'; omega)
     have hS : SE W E (w'.alloc (.cells f'.z f'.t)) := hW.grow hb2
     unfold Go.wpOp
     simp only [ho]
     rw [if_pos (by simp [Region.wanted, hg])]
     refine .inl ?_
     simp only [Oper.wp, hrun, Oper.upon, hd]
     exact ⟨hS, key⟩
    ·
     have h2 := hpart L' a' w' hb hr i hi (fun f hf e => hif ⟨f, hf, e⟩) ⟨f, hf, hl⟩
     rw [hn] at h2
     exact h2
   ·
    have hall : ∀ f ∈ F, L'[f.i]? = some true := fun f hf => (hr.yet f hf).resolve_left fun h => hp ⟨f, hf, h⟩
    have := hfull L' a' w' hb hr hall
    rwa [hn] at this
def aloof (ops : Array Oper) (F : List Fl) (o : Oper) : Bool := F.all fun f => !(o.looksAt ops).contains f.d && o.dst != some f.d
theorem Rel.exec {B : Nat} {L' : Array Bool} {a' : Act} {w : World} (h : Rel F B L a L' a' w) {o : Oper} (ha : aloof ops F o = true) (hs : ∀ cs b, o.op ≠ .select cs b) : execOp a'.eval o = execOp a.eval o := by
 refine execOp_congr o hs fun x hx => ?_
 cases x with
 | tmp t =>
   have ht : ∀ f ∈ F, f.d ≠ t := by
    intro f hf e
    have := List.all_eq_true.1 ha f hf
    simp only [Bool.and_eq_true, Bool.not_eq_true', List.contains_eq_mem, decide_eq_false_iff_not] at this
    exact this.1 (List.mem_append_left _ (List.mem_filterMap.2 ⟨.tmp t, by simpa using hx, by rw [e]⟩))
   simp only [Act.eval, Array.getD_eq_getD_getElem?, h.slot t ht]
 | _ => rfl
theorem Rel.wanted {B : Nat} {L' : Array Bool} {a' : Act} {w : World} (h : Rel F B L a L' a' w) {o : Oper} (ha : aloof ops F o = true) : Region.wanted o (yielded ops a'.tmps) = Region.wanted o (yielded ops a.tmps) := by
 unfold Region.wanted
 cases hg : o.guard with
 | none => rfl
 | some gw =>
   obtain ⟨g, want⟩ := gw
   have hy : yielded ops a'.tmps g = yielded ops a.tmps g := by
    unfold yielded
    cases ht : (ops[g]?).bind (·.dst) with
    | none => rfl
    | some t =>
      have ht' : ∀ f ∈ F, f.d ≠ t := by
       intro f hf e
       have := List.all_eq_true.1 ha f hf
       simp only [Bool.and_eq_true, Bool.not_eq_true', List.contains_eq_mem, decide_eq_false_iff_not] at this
       exact this.1 (by subst e; simp [Oper.looksAt, hg, ht])
      simp only [Option.bind_some, h.slot t ht']
   simp only [hy]
theorem Rel.put {B : Nat} {L' : Array Bool} {a' : Act} {w : World} (h : Rel F B L a L' a' w) {o : Oper} (ha : aloof ops F o = true) {i : Nat} (hi : ∀ f ∈ F, f.i ≠ i) (v : Value) :
  Rel F B (L.setIfInBounds i true) (a.put o.dst v) (L'.setIfInBounds i true) (a'.put o.dst v) w := by
 have hd : ∀ f ∈ F, o.dst ≠ some f.d := by
  intro f hf
  have := List.all_eq_true.1 ha f hf
  simp only [Bool.and_eq_true, bne_iff_ne] at this
  exact this.2
 have hl : ∀ f ∈ F, ∀ L : Array Bool, (L.setIfInBounds i true)[f.i]? = L[f.i]? := fun f hf L => Array.getElem?_setIfInBounds_ne (Ne.symm (hi f hf))
 have hp : ∀ f ∈ F, (a'.put o.dst v).tmps[f.d]? = a'.tmps[f.d]? := by
  intro f hf
  cases hdo : o.dst with
  | none => rfl
  | some d => exact Array.getElem?_setIfInBounds_ne fun e => hd f hf (by rw [hdo, e])
 refine ⟨?_, ?_, ?_, ?_, fun f hf => by rw [hl f hf]; exact h.no f hf, fun f hf => by rw [hl f hf]; exact h.yet f hf, ?_, ?_⟩
 ·
  cases o.dst <;> simp [Act.put, h.size]
 ·
  cases o.dst <;> simp [Act.put, h.defers]
 ·
  intro d hnd
  cases o.dst with
  | none => exact h.slot d hnd
  | some d' =>
    simp only [Act.put]
    by_cases e : d' = d
    ·
     subst e; simp [Array.getElem?_setIfInBounds, h.size]
    ·
     rw [Array.getElem?_setIfInBounds_ne e, Array.getElem?_setIfInBounds_ne e]; exact h.slot d hnd
 ·
  intro j hj
  by_cases e : i = j
  ·
   subst e
   have hs := h.listed i hj
   rcases Nat.lt_or_ge i L'.size with h1 | h1
   ·
    have h2 : i < L.size := by
     rcases Nat.lt_or_ge i L.size with h2 | h2
     ·
      exact h2
     ·
      rw [Array.getElem?_eq_none h2, Array.getElem?_eq_getElem h1] at hs; cases hs
    simp [h1, h2]
   ·
    have h2 : L.size ≤ i := by
     rcases Nat.lt_or_ge i L.size with h2 | h2
     ·
      rw [Array.getElem?_eq_none h1, Array.getElem?_eq_getElem h2] at hs; cases hs
     ·
      exact h2
    simp [h1, h2]
  ·
   rw [Array.getElem?_setIfInBounds_ne e, Array.getElem?_setIfInBounds_ne e]; exact h.listed j hj
 ·
  intro f hf hlf
  rw [hl f hf] at hlf
  rw [hp f hf]
  exact h.made f hf hlf
 ·
  intro f hf f' hf' hne h1 h2
  rw [hl f hf] at h1; rw [hl f' hf'] at h2; rw [hp f hf, hp f' hf']
  exact h.apart f hf f' hf' hne h1 h2
theorem wp_region_float {id : Nat} {a : Act} {w : World} (E : List Nat) (F : List Fl) (hm : P.follows .mixedOrders = true) (hF : (F.all fun f => decide (f.i < ops.size)) = true)
  (n : Nat) (hsz : a.tmps.size = n) (ok : Flok P ops .any F n)
  (h : Flok P ops .any F n → Good P .any ops Q w.drew E F (Array.replicate ops.size false) a w.drew) : (Code.region id ops true).wp P Q a w := by
 replace h := h ok
 refine wp_region_held (S := SE w.drew E) hm ?_
 have hlt : ∀ f ∈ F, f.i < ops.size := fun f hf => by simpa using List.all_eq_true.1 hF f hf
 have := h (SE.of (bR_ _ _)) (Array.replicate ops.size false) a w.drew (bR_ _ _) ⟨rfl, rfl, fun _ _ => rfl, fun _ _ => rfl, fun f hf => by simp [hlt f hf], fun f hf => by simp [hlt f hf],
  fun f hf h1 => by simp [hlt f hf] at h1, fun f hf _ _ _ h1 => by simp [hlt f hf] at h1⟩
 rwa [left_new] at this
theorem good_pure (i : Nat) {oi : Oper} {v : Value} (hi : ops[i]? = some oi) (hs : Region.noSelect ops = true) (ha : aloof ops F oi = true) (hn : (F.all fun f => f.i != i) = true)
  (hf : Region.free md ops L i = true) (hr : (Region.ready md ops L).contains i = true) (hl : (L[i]? == some false) = true)
  (hQ : ∀ c a w, Q (.panic c) (a.put oi.dst v) w → Q (.panic c) a w)
  (hy : YieldsIf P ops (SE W E) oi v a)
  (h : Good P md ops Q W E F (L.setIfInBounds i true) (a.put oi.dst v) w) : Good P md ops Q W E F L a w := by
 intro hW L' a' w' hb hrel
 have hni : ∀ f ∈ F, f.i ≠ i := fun f hf => by simpa using List.all_eq_true.1 hn f hf
 have hsel : ∀ cs b, oi.op ≠ .select cs b := fun cs b => Region.noSelect_spec hs i oi cs b hi
 have hl' : L'[i]? = some false := by rw [hrel.listed i hni]; simpa using hl
 have hS : SE W E w' := hW.grow hb
 have key := h hW (L'.setIfInBounds i true) (a'.put oi.dst v) w' hb (hrel.put ha hni v)
 rw [show left L' = left (L'.setIfInBounds i true) + 1 from (left_set hl').symm]
 refine wpAnyH_first hi (Region.noSelect_spec hs) hQ _ _ _ _ ?_ (hrel.ready (by simpa using hr) hni) (hy.of_same (hrel.exec ha hsel) (hrel.wanted ha)) hS key
 intro j oj hj hji hun hno
 refine Region.free_spec hi hf j oj hj hji ?_ hno
 by_cases hjf : ∃ f ∈ F, f.i = j
 ·
  obtain ⟨f, hf, rfl⟩ := hjf; exact getD_of (hrel.no f hf) _
 ·
  rw [← hun]; simp only [Array.getD_eq_getD_getElem?]; rw [hrel.listed j fun f hf e => hjf ⟨f, hf, e⟩]
def allOn (F : List Fl) (L : Array Bool) : Array Bool := F.foldl (fun L f => L.setIfInBounds f.i true) L
theorem allOn_other {F : List Fl} {j : Nat} (h : ∀ f ∈ F, f.i ≠ j) : ∀ L : Array Bool, (allOn F L)[j]? = L[j]? := by
 induction F with
 | nil => intro L; rfl
 | cons f F ih =>
   intro L
   have := ih (fun g hg => h g (List.mem_cons_of_mem _ hg)) (L.setIfInBounds f.i true)
   rw [show allOn (f :: F) L = allOn F (L.setIfInBounds f.i true) from rfl, this]
   exact Array.getElem?_setIfInBounds_ne (h f List.mem_cons_self)
theorem allOn_mem {F : List Fl} {f : Fl} (hf : f ∈ F) : ∀ L : Array Bool, f.i < L.size → (allOn F L)[f.i]? = some true := by
 induction F with
 | nil => cases hf
 | cons g F ih =>
   intro L hlt
   rw [show allOn (g :: F) L = allOn F (L.setIfInBounds g.i true) from rfl]
   by_cases hm : ∃ f' ∈ F, f'.i = f.i
   ·
    obtain ⟨f', hf', e⟩ := hm
    have : ∀ (F' : List Fl) (L : Array Bool), f'.i < L.size → f' ∈ F' → (allOn F' L)[f'.i]? = some true := by
     intro F'
     induction F' with
     | nil => intro _ _ h; cases h
     | cons g' F' ih' =>
       intro L hlt hm
       rw [show allOn (g' :: F') L = allOn F' (L.setIfInBounds g'.i true) from rfl]
       by_cases hin : ∃ f'' ∈ F', f''.i = f'.i
       ·
        rcases List.mem_cons.1 hm with rfl | hm'
        ·
         obtain ⟨f'', h2, e2⟩ := hin
         clear ih' hm hf' ih
         have gen : ∀ (F3 : List Fl) (L : Array Bool), L[f'.i]? = some true → (allOn F3 L)[f'.i]? = some true := by
          intro F3
          induction F3 with
          | nil => intro L h; exact h
          | cons g3 F3 ih3 =>
            intro L h
            refine ih3 (L.setIfInBounds g3.i true) ?_
            by_cases e3 : g3.i = f'.i
            ·
             rw [e3]; simp [(Array.getElem?_eq_some_iff.1 h).1]
            ·
             rw [Array.getElem?_setIfInBounds_ne e3]; exact h
         exact gen F' _ (by simp [hlt])
        ·
         exact ih' _ (by simpa using hlt) hm'
       ·
        rw [allOn_other fun f'' h2 e2 => hin ⟨f'', h2, e2⟩]
        rcases List.mem_cons.1 hm with rfl | hm'
        ·
         simp [hlt]
        ·
         exact absurd ⟨f', hm', rfl⟩ hin
    rw [← e]
    exact this F _ (by rw [e]; simpa using hlt) hf'
   ·
    rcases List.mem_cons.1 hf with rfl | hf'
    ·
     rw [allOn_other fun f' h2 e2 => hm ⟨f', h2, e2⟩]; simp [hlt]
    ·
     exact absurd ⟨f, hf', rfl⟩ hm
theorem Rel.readyOn {B : Nat} {L' : Array Bool} {a' : Act} {w : World} (h : Rel F B L a L' a' w) {i : Nat} (hi : i ∈ Region.ready md ops L') (hn : ∀ f ∈ F, f.i ≠ i) : i ∈ Region.ready md ops (allOn F L) := by
 rw [mem_ready] at *
 obtain ⟨h0, o, ho, hall⟩ := hi
 refine ⟨by rw [← h0]; simp only [Array.getD_eq_getD_getElem?]; rw [allOn_other hn, h.listed i hn], o, ho, fun e he hb => ?_⟩
 have h1 := hall e he hb
 by_cases hf : ∃ f ∈ F, f.i = e.on
 ·
  obtain ⟨f, hf, e1⟩ := hf
  rw [← e1]; exact getD_of (allOn_mem hf _ (Array.getElem?_eq_some_iff.1 (h.no f hf)).1) _
 ·
  rw [← h1]; simp only [Array.getD_eq_getD_getElem?]; rw [allOn_other (fun f hg e1 => hf ⟨f, hg, e1⟩), h.listed e.on fun f hg e1 => hf ⟨f, hg, e1⟩]
theorem good_call (i f : Nat) {oi : Oper} {x : Array Operand} {tys : Array TypeId} {args : Array Value} (hi : ops[i]? = some oi) (hop : oi.op = Op.call { callee := Callee.value (Operand.func f), args := x, argTypes := tys })
  (ok : Flok P ops md F a.tmps.size) (ha : aloof ops F oi = true) (hn : (F.all fun f => f.i != i) = true)
  (hr : (Region.ready md ops L).contains i = true) (hl : (L[i]? == some false) = true) (hone : Region.ready md ops (allOn F L) = [i])
  (hw : Region.wanted oi (yielded ops a.tmps) = true)
  {fn : Func} {c : Code} (hf : P.funcs[f]? = some fn) (hname : (fn.name == "runtime.NumGoroutine") = false) (hb : fn.body = some c)
  (hargs : x.map a.eval = args)
  (hc : ∀ w', Below w.heap.size w w' → Calls P f args w' (Ret w' fun w2 v => Good P md ops Q W E F (L.setIfInBounds i true) (a.put oi.dst v) w2)) : Good P md ops Q W E F L a w := by
 intro hW
 have hni : ∀ f ∈ F, f.i ≠ i := fun f hf => by simpa using List.all_eq_true.1 hn f hf
 have hl0 : L[i]? = some false := by simpa using hl
 have step : ∀ L' a' w', Below w.heap.size w w' → Rel F W.heap.size L a L' a' w' →
   wpOp P ops Q i (fun a1 w1 => SE W E w1 ∧ wpAnyH P md ops Q (SE W E) (left L' - 1) (L'.setIfInBounds i true) a1 w1) a' w' := by
  intro L' a' w' hbw hrel
  have hl' : L'[i]? = some false := by rw [hrel.listed i hni]; exact hl0
  have hex := hrel.exec ha (fun cs b => by rw [hop]; intro h; cases h)
  unfold Go.wpOp
  simp only [hi]
  rw [if_pos ((hrel.wanted ha).trans hw)]
  refine .inl ?_
  have key : oi.upon P a' (fun a1 w1 => SE W E w1 ∧ wpAnyH P md ops Q (SE W E) (left L' - 1) (L'.setIfInBounds i true) a1 w1) Q (.ok (.enter f args) w') := by
   rw [Oper.upon_enter]
   refine (hc w' hbw).mono ?_
   rintro e w2 ⟨v, rfl, h1, h2⟩
   have hW2 : SE W E w2 := (hW.grow hbw).grow h2
   refine ⟨hW2, ?_⟩
   have := h1 hW2 (L'.setIfInBounds i true) (a'.put oi.dst v) w2 (bR_ _ _) ((hrel.grow h2).put ha hni v)
   rwa [show left (L'.setIfInBounds i true) = left L' - 1 by have := left_set hl'; omega] at this
  unfold Oper.wp
  have e : (execOp a'.eval oi).run P w' = .ok (.enter f args) w' := by
   rw [hex]
   obtain ⟨dst, op, ty, pos, after, guard⟩ := oi
   dsimp only at hop
   subst hop
   rw [execOp_call_go, hargs]
   simpa using run_enter hf hname hb args w'
  rw [e]
  exact key
 refine float_core ok ?_ ?_ hW
 ·
  intro L' a' w' hbw hrel hall
  have hl' : L'[i]? = some false := by rw [hrel.listed i hni]; exact hl0
  have hin : i ∈ Region.ready md ops L' := hrel.ready (by simpa using hr) hni
  have s := step L' a' w' hbw hrel
  rw [show left L' = (left L' - 1) + 1 by have := left_pos hl'; omega]
  refine ⟨fun h0 => (by rw [h0] at hin; cases hin), fun j hj => ?_⟩
  have hnj : ∀ f ∈ F, f.i ≠ j := by
   rintro f hf rfl
   have := (mem_ready.1 hj).1
   rw [getD_of (hall f hf)] at this; cases this
  have hj' := hrel.readyOn hj hnj
  rw [hone] at hj'
  rw [List.mem_singleton.1 hj']
  exact s
 ·
  intro L' a' w' hbw hrel j hj hnj _
  have hj' := hrel.readyOn hj hnj
  rw [hone] at hj'
  rw [List.mem_singleton.1 hj']
  exact step L' a' w' hbw hrel
def allWait (md : Region.Mode) (ops : Array Oper) (F : List Fl) (L : Array Bool) : Bool :=
 (List.range ops.size).all fun j => L.getD j true || F.any (fun f => f.i == j) || match ops[j]? with
  | some o => F.all fun f => o.after.any fun e => Region.binds md e && e.on == f.i
  | none => true
theorem good_end (ok : Flok P ops md F a.tmps.size) (hz : allWait md ops F L = true)
  (h : SE W E w → ∀ L' a' w', Below w.heap.size w w' → Rel F W.heap.size L a L' a' w' → (∀ f ∈ F, L'[f.i]? = some true) → wpAnyH P md ops Q (SE W E) (left L') L' a' w') :
  Good P md ops Q W E F L a w := by
 intro hW
 refine float_core ok (h hW) ?_ hW
 intro L' a' w' hbw hrel j hj hnj hsome
 obtain ⟨f, hf, hlf⟩ := hsome
 obtain ⟨h0, o, ho, hall⟩ := mem_ready.1 hj
 have hjl : j < ops.size := (Array.getElem?_eq_some_iff.1 ho).1
 have := List.all_eq_true.1 hz j (List.mem_range.2 hjl)
 have hLj : L.getD j true = false := by rw [← h0]; simp only [Array.getD_eq_getD_getElem?]; rw [hrel.listed j hnj]
 simp only [hLj, ho, Bool.false_or, Bool.or_eq_true] at this
 rcases this with h1 | h1
 ·
  obtain ⟨f', hf', e⟩ := List.any_eq_true.1 h1
  exact absurd (by simpa using e) (hnj f' hf')
 ·
  have h2 := List.all_eq_true.1 h1 f hf
  obtain ⟨e, he, hb⟩ := Array.any_eq_true'.1 h2
  simp only [Bool.and_eq_true, beq_iff_eq] at hb
  have h3 := hall e he hb.1
  rw [hb.2, getD_of hlf] at h3
  cases h3
theorem arr_put {T T' : Array Value} {d : Nat} {v : Value} (hs : T'.size = T.size) (h : ∀ x, x ≠ d → T'[x]? = T[x]?) (hd : T'[d]? = some v) : T' = T.setIfInBounds d v := by
 apply Array.ext_getElem?
 intro x
 by_cases e : x = d
 ·
  subst e; rw [hd]; simp [← hs, (Array.getElem?_eq_some_iff.1 hd).1]
 ·
  rw [h x e, Array.getElem?_setIfInBounds_ne (Ne.symm e)]
theorem flag_put {L L' : Array Bool} {d : Nat} {v : Bool} (h : ∀ x, x ≠ d → L'[x]? = L[x]?) (h0 : (L[d]?).isSome) (hd : L'[d]? = some v) : L' = L.setIfInBounds d v := by
 apply Array.ext_getElem?
 intro x
 by_cases e : x = d
 ·
  subst e
  rw [hd]
  rcases Nat.lt_or_ge x L.size with h1 | h1
  ·
   simp [h1]
  ·
   simp [Array.getElem?_eq_none h1] at h0
 ·
  rw [h x e, Array.getElem?_setIfInBounds_ne (Ne.symm e)]
theorem Flok.nil : Flok P ops md [] n := ⟨fun f hf => (nomatch hf), fun f hf => (nomatch hf), fun f hf => (nomatch hf), fun f hf => (nomatch hf)⟩
theorem good_end0 (k : Nat) (hk : left L = k)
  (h : SE W E w → ∀ w', Below w.heap.size w w' → wpAnyH P md ops Q (SE W E) k L a w') : Good P md ops Q W E [] L a w := by
 intro hW L' a' w' hb hr
 have e1 : L' = L := Array.ext_getElem? fun x => hr.listed x (fun f hf => nomatch hf)
 have e2 : a' = a := by
  have := Array.ext_getElem? fun x => hr.slot x (fun f hf => nomatch hf)
  obtain ⟨T, D⟩ := a
  obtain ⟨T', D'⟩ := a'
  have hd := hr.defers
  dsimp only at this hd
  rw [this, hd]
 subst e1; subst e2
 rw [hk]
 exact h hW w' hb
theorem good_end1 (k : Nat) {i d t : Nat} {z : Array Value} (ok : Flok P ops md [⟨i, d, t, z⟩] n) (hsz : a.tmps.size = n) (hz : allWait md ops [⟨i, d, t, z⟩] L = true) (hk : left (L.setIfInBounds i true) = k)
  (h : SE W E w → ∀ g w', Below w.heap.size w w' → W.heap.size ≤ g → Box w' g t z →
   wpAnyH P md ops Q (SE W E) k (L.setIfInBounds i true) (a.put (some d) (.pointer (some ⟨g, 0, none⟩))) w') : Good P md ops Q W E [⟨i, d, t, z⟩] L a w := by
 subst hsz
 refine good_end ok hz ?_
 intro hW L' a' w' hb hr hall
 have h1 := hall ⟨i, d, t, z⟩ List.mem_cons_self
 obtain ⟨g, g1, g2, g3⟩ := hr.made ⟨i, d, t, z⟩ List.mem_cons_self h1
 have e1 : L' = L.setIfInBounds i true := flag_put (fun x hx => hr.listed x (by simpa using Ne.symm hx)) (by rw [hr.no ⟨i, d, t, z⟩ List.mem_cons_self]; rfl) h1
 have e2 : a' = a.put (some d) (.pointer (some ⟨g, 0, none⟩)) := by
  have := arr_put hr.size (fun x hx => hr.slot x (by simpa using Ne.symm hx)) g1
  obtain ⟨T, D⟩ := a
  obtain ⟨T', D'⟩ := a'
  have hd := hr.defers
  dsimp only at this hd
  simp only [Act.put, this, hd]
 subst e1; subst e2
 rw [hk]
 exact h hW g w' hb g2 g3
def parts (ops : Array Oper) (i : Nat) : Option (Option Tmp × Op × Option (Nat × Bool)) := (ops[i]?).map fun o => (o.dst, o.op, o.guard)
def plainOp : Op → Bool
 | .call .. | .next .. | .select .. | .go .. | .defer .. => false
 | _ => true
def bare (d : Option Tmp) (op : Op) (g : Option (Nat × Bool)) : Oper := { dst := d, op, type := 0, pos := "", after := #[], guard := g }
theorem exec_bare {o : Oper} (h : plainOp o.op = true) (ρ : Operand → Value) : execOp ρ o = execOp ρ (bare o.dst o.op o.guard) := by
 obtain ⟨dst, op, type, pos, after, guard⟩ := o
 cases op <;> first | rfl | cases h
theorem parts_some {i : Nat} {d : Option Tmp} {op : Op} {g : Option (Nat × Bool)} (h : parts ops i = some (d, op, g)) : ∃ o, ops[i]? = some o ∧ o.dst = d ∧ o.op = op ∧ o.guard = g := by
 unfold parts at h
 cases ho : ops[i]? with
 | none => rw [ho] at h; cases h
 | some o => rw [ho] at h; injection h with h; injection h with h1 h; injection h with h2 h3; exact ⟨o, rfl, h1, h2, h3⟩
theorem wanted_bare (o : Oper) (f : Nat → Option Bool) : Region.wanted (bare o.dst o.op o.guard) f = Region.wanted o f := rfl
theorem aloof_bare (o : Oper) : aloof ops F (bare o.dst o.op o.guard) = aloof ops F o := rfl
theorem Flok.one {i d t : Nat} {z : Array Value} (hop : parts ops i = some (some d, .alloc t, none)) (haf : ((ops[i]?).map fun o => o.after.all fun e => !Region.binds md e) = some true) (hd : Nat.blt d n = true)
  (hrun : ∀ w : World, (Instr.alloc t true (.tuple #[])).run P w = .ok (.pointer (some ⟨w.heap.size, 0, none⟩)) (w.alloc (.cells z t))) : Flok P ops md [⟨i, d, t, z⟩] n := by
 refine ⟨fun f hf => ?_, fun f hf f' hf' _ => ?_, fun f hf f' hf' _ => ?_, fun f hf => ?_⟩
 ·
  rw [List.mem_singleton.1 hf]
  obtain ⟨o, ho, h1, h2, h3⟩ := parts_some hop
  rw [ho] at haf
  injection haf with haf
  refine ⟨o, ho, h1, h3, fun e he => by simpa using Array.all_eq_true_iff_forall_mem.1 haf e he, fun ρ w => ?_⟩
  rw [exec_bare (by rw [h2]; rfl), h2]
  simp [execOp, bare, hrun]
 ·
  rw [List.mem_singleton.1 hf, List.mem_singleton.1 hf']
 ·
  rw [List.mem_singleton.1 hf, List.mem_singleton.1 hf']
 ·
  rw [List.mem_singleton.1 hf]; exact Nat.le_of_ble_eq_true hd
theorem good_pureX (i : Nat) (d : Option Tmp) (op : Op) (g : Option (Nat × Bool)) (v : Value) (hi : parts ops i = some (d, op, g))
  (hc : (Region.noSelect ops && plainOp op && aloof ops F (bare d op g) && (F.all fun f => f.i != i) && Region.free md ops L i && (Region.ready md ops L).contains i && (L[i]? == some false)) = true)
  (hw : Region.wanted (bare d op g) (yielded ops a.tmps) = true) (hQ : ∀ c a w, Q (.panic c) (a.put d v) w → Q (.panic c) a w)
  (hy : ∀ w', SE W E w' → (execOp a.eval { dst := d, op := op, type := 0, pos := "", after := #[], guard := g }).run P w' = .ok (.value v) w')
  (h : Good P md ops Q W E F (L.setIfInBounds i true) (a.put d v) w) : Good P md ops Q W E F L a w := by
 obtain ⟨o, ho, rfl, rfl, rfl⟩ := parts_some hi
 simp only [Bool.and_eq_true] at hc
 obtain ⟨⟨⟨⟨⟨⟨c1, c2⟩, c3⟩, c4⟩, c5⟩, c6⟩, c7⟩ := hc
 exact good_pure i ho c1 (by rw [← aloof_bare]; exact c3) c4 c5 c6 c7 hQ (.inl ⟨hw, fun w' hw' => by rw [exec_bare c2]; exact hy w' hw'⟩) h
theorem good_callX (i f : Nat) (d : Option Tmp) (x : Array Operand) (tys : Array TypeId) (g : Option (Nat × Bool)) (args : Array Value)
  (hi : parts ops i = some (d, Op.call { callee := Callee.value (Operand.func f), args := x, argTypes := tys }, g)) (ok : Flok P ops md F n) (hsz : a.tmps.size = n)
  (hc : (aloof ops F (bare d (Op.call { callee := Callee.value (Operand.func f), args := x, argTypes := tys }) g) && (F.all fun f => f.i != i) && (Region.ready md ops L).contains i && (L[i]? == some false)) = true)
  (hone : Region.ready md ops (allOn F L) = [i]) (hw : Region.wanted (bare d (Op.call { callee := Callee.value (Operand.func f), args := x, argTypes := tys }) g) (yielded ops a.tmps) = true)
  {fn : Func} {c : Code} (hf : P.funcs[f]? = some fn) (hname : (fn.name == "runtime.NumGoroutine") = false) (hb : fn.body = some c)
  (hargs : x.map a.eval = args)
  (hcall : ∀ w', Below w.heap.size w w' → Calls P f args w' (Ret w' fun w2 v => Good P md ops Q W E F (L.setIfInBounds i true) (a.put d v) w2)) : Good P md ops Q W E F L a w := by
 subst hsz
 obtain ⟨o, ho, rfl, h2, rfl⟩ := parts_some hi
 simp only [Bool.and_eq_true] at hc
 obtain ⟨⟨⟨c1, c2⟩, c3⟩, c4⟩ := hc
 rw [← h2] at c1 hw
 exact good_call i f ho h2 ok (by rw [← aloof_bare]; exact c1) c2 c3 c4 hone hw hf hname hb hargs hcall
theorem held_pureX {S : World → Prop} {m : Nat} (i : Nat) (d : Option Tmp) (op : Op) (g : Option (Nat × Bool)) (v : Value) (hi : parts ops i = some (d, op, g))
  (hc : (Region.noSelect ops && plainOp op && Region.free md ops L i && (Region.ready md ops L).contains i) = true)
  (hw : Region.wanted (bare d op g) (yielded ops a.tmps) = true) (hQ : ∀ c a w, Q (.panic c) (a.put d v) w → Q (.panic c) a w)
  (hy : ∀ w', (execOp a.eval { dst := d, op := op, type := 0, pos := "", after := #[], guard := g }).run P w' = .ok (.value v) w') (hS : S w)
  (h : wpAnyH P md ops Q S m (L.setIfInBounds i true) (a.put d v) w) : wpAnyH P md ops Q S (m + 1) L a w := by
 obtain ⟨o, ho, rfl, rfl, rfl⟩ := parts_some hi
 simp only [Bool.and_eq_true] at hc
 obtain ⟨⟨⟨c1, c2⟩, c3⟩, c4⟩ := hc
 exact wpAnyH_take ho c1 c3 c4 hQ (.inl ⟨hw, fun w' _ => by rw [exec_bare c2]; exact hy w'⟩) hS h
theorem held_oneX {S : World → Prop} {m : Nat} (i : Nat) (op : Op) (g : Option (Nat × Bool)) (w2 : World) (hi : parts ops i = some (none, op, g))
  (hp : plainOp op = true) (hone : Region.ready md ops L = [i]) (hw : Region.wanted (bare none op g) (yielded ops a.tmps) = true)
  (hrun : (execOp a.eval { dst := none, op := op, type := 0, pos := "", after := #[], guard := g }).run P w = .ok .skip w2) (hS : S w2) (h : wpAnyH P md ops Q S m (L.setIfInBounds i true) a w2) : wpAnyH P md ops Q S (m + 1) L a w := by
 obtain ⟨o, ho, hd, rfl, rfl⟩ := parts_some hi
 refine ⟨fun h0 => (by rw [hone] at h0; cases h0), fun j hj => ?_⟩
 rw [hone] at hj
 rw [List.mem_singleton.1 hj]
 unfold Go.wpOp
 simp only [ho]
 rw [if_pos (by rw [← wanted_bare, hd]; exact hw)]
 refine .inl ?_
 have hrun : (execOp a.eval (bare none o.op o.guard)).run P w = .ok .skip w2 := hrun
 rw [← hd, ← exec_bare hp] at hrun
 simp only [Oper.wp, hrun, Oper.upon, hd]
 exact ⟨hS, h⟩
end
theorem frozen_new (w : World) (c : Array Value) (t : TypeId) (i : Nat) : (w.alloc (.cells c t)).frozen? ⟨w.heap.size, i, none⟩ = false := by
 rw [frozen?_alloc_cells]
 simp [World.frozen?]
theorem box_kept {w w1 : World} {x y : Value} {t : TypeId} (hb : Below (w.alloc (.cells #[x, y] t)).heap.size (w.alloc (.cells #[x, y] t)) w1) :
  w1.cell? ⟨w.heap.size, 0, none⟩ = some x ∧ w1.cell? ⟨w.heap.size, 1, none⟩ = some y ∧ w1.frozen? ⟨w.heap.size, 0, none⟩ = false ∧ w1.frozen? ⟨w.heap.size, 1, none⟩ = false := by
 have hs : w.heap.size < (w.alloc (.cells #[x, y] t)).heap.size := by simp
 refine ⟨(hb.cell hs).trans ?_, (hb.cell hs).trans ?_, (hb.frozen hs).trans ?_, (hb.frozen hs).trans ?_⟩
 ·
  rw [World.cell?_alloc_at _ _ _ _ (by simp)]; rfl
 ·
  rw [World.cell?_alloc_at _ _ _ _ (by simp)]; rfl
 ·
  exact frozen_new _ _ _ _
 ·
  exact frozen_new _ _ _ _
theorem results_mid {fn : Func} {p : Tmp} {ty : TypeId} (h : fn.results = #[.cell p ty]) (tmps : Array Value) (P : Program) (w : World) (g : Nat) (cs : List Value) (d : TypeDesc)
  (hp : tmps.getD p undef = .pointer (some ⟨g, 0, none⟩)) (hc : w.rangeAt g 0 cs) (hu : P.underlying ty = some d) (hd : d.isRow = true) (hi : (P.info? ty).map (·.size) = some cs.length) :
  (results fn tmps).run P w = .ok (.agg cs.toArray) w := by
 have hp' : tmps[p]?.getD undef = .pointer (some ⟨g, 0, none⟩) := by simpa using hp
 simp [results, h, hp', asAddr, run_loadVar_mid w g 0 ty cs d hc hu hd hi]
theorem range2 {w : World} {g : Nat} {x y : Value} (h0 : w.cell? ⟨g, 0, none⟩ = some x) (h1 : w.cell? ⟨g, 1, none⟩ = some y) : w.rangeAt g 0 [x, y] := by
 intro j v hv
 match j, hv with
 | 0, hv => cases hv; exact h0
 | 1, hv => cases hv; exact h1
 | j + 2, hv => simp at hv
theorem ret_int {fn : Func} {p : Tmp} (h : fn.results = #[.cell p 103]) (tmps : Array Value) (w : World) (g : Nat) (x y : Value)
  (hp : tmps.getD p undef = .pointer (some ⟨g, 0, none⟩)) (h0 : w.cell? ⟨g, 0, none⟩ = some x) (h1 : w.cell? ⟨g, 1, none⟩ = some y) : (results fn tmps).run Tryz.prog w = .ok (.agg #[x, y]) w :=
 results_mid h tmps _ w g [x, y] _ hp (range2 h0 h1) Tryz.underlying103 rfl (by kernel_rfl)
theorem box_set {w : World} {b : Nat} {x y x' y' : Value} (h0 : w.cell? ⟨b, 0, none⟩ = some x) (h1 : w.cell? ⟨b, 1, none⟩ = some y) :
  ((w.setCell ⟨b, 0, none⟩ x').setCell ⟨b, 1, none⟩ y').cell? ⟨b, 0, none⟩ = some x' ∧ ((w.setCell ⟨b, 0, none⟩ x').setCell ⟨b, 1, none⟩ y').cell? ⟨b, 1, none⟩ = some y' := by
 have hne : (⟨b, 0, none⟩ : Addr) ≠ ⟨b, 1, none⟩ := by simp
 have k0 : (w.setCell ⟨b, 0, none⟩ x').cell? ⟨b, 0, none⟩ = some x' := World.cell?_setCell_same' _ _ _ (by rw [h0]; rfl)
 have k1 : (w.setCell ⟨b, 0, none⟩ x').cell? ⟨b, 1, none⟩ = some y := (World.cell?_setCell_other _ _ _ _ hne).trans h1
 exact ⟨(World.cell?_setCell_other _ _ _ _ (Ne.symm hne)).trans k0, World.cell?_setCell_same' _ _ _ (by rw [k1]; rfl)⟩
theorem boxes2 {w w1 : World} {x y x' y' : Value} {o : Obj} {t t' : TypeId} (hb : Below (((w.alloc (.cells #[x, y] t)).alloc (.cells #[x', y'] t')).alloc o).drew.heap.size (((w.alloc (.cells #[x, y] t)).alloc (.cells #[x', y'] t')).alloc o).drew w1) :
  w1.cell? ⟨w.heap.size, 0, none⟩ = some x ∧ w1.cell? ⟨w.heap.size, 1, none⟩ = some y ∧ w1.cell? ⟨w.heap.size + 1, 0, none⟩ = some x' ∧ w1.cell? ⟨w.heap.size + 1, 1, none⟩ = some y' := by
 have b1 : Below (w.alloc (.cells #[x, y] t)).heap.size (w.alloc (.cells #[x, y] t)) w1 :=
  ((((bR_ _ _).alloc (by simp) _).alloc (by simp) _).drew).trans (hb.mono (by simp [World.drew]))
 have b2 : Below ((w.alloc (.cells #[x, y] t)).alloc (.cells #[x', y'] t')).heap.size ((w.alloc (.cells #[x, y] t)).alloc (.cells #[x', y'] t')) w1 :=
  (((bR_ _ _).alloc (by simp) _).drew).trans (hb.mono (by simp [World.drew]))
 have h1 := box_kept b1
 have h2 := box_kept b2
 rw [World.size_alloc] at h2
 exact ⟨h1.1, h1.2.1, h2.1, h2.2.1⟩
theorem boxes2s {w1 : World} {g : Nat} {a b c d u u' : Value} (h : w1.cell? ⟨g, 0, none⟩ = some a ∧ w1.cell? ⟨g, 1, none⟩ = some b ∧ w1.cell? ⟨g + 1, 0, none⟩ = some c ∧ w1.cell? ⟨g + 1, 1, none⟩ = some d) :
  ((w1.setCell ⟨g + 1 + 1, 0, none⟩ u).setCell ⟨g + 1 + 1, 1, none⟩ u').cell? ⟨g, 0, none⟩ = some a ∧ ((w1.setCell ⟨g + 1 + 1, 0, none⟩ u).setCell ⟨g + 1 + 1, 1, none⟩ u').cell? ⟨g, 1, none⟩ = some b ∧
    ((w1.setCell ⟨g + 1 + 1, 0, none⟩ u).setCell ⟨g + 1 + 1, 1, none⟩ u').cell? ⟨g + 1, 0, none⟩ = some c ∧ ((w1.setCell ⟨g + 1 + 1, 0, none⟩ u).setCell ⟨g + 1 + 1, 1, none⟩ u').cell? ⟨g + 1, 1, none⟩ = some d := by
 have far : ∀ (b i : Nat), b < g + 1 + 1 → ((w1.setCell ⟨g + 1 + 1, 0, none⟩ u).setCell ⟨g + 1 + 1, 1, none⟩ u').cell? ⟨b, i, none⟩ = w1.cell? ⟨b, i, none⟩ := fun b i hb =>
  (World.cell?_setCell_other _ _ _ _ (by intro he; injection he with he; omega)).trans (World.cell?_setCell_other _ _ _ _ (by intro he; injection he with he; omega))
 exact ⟨(far _ _ (by omega)).trans h.1, (far _ _ (by omega)).trans h.2.1, (far _ _ (by omega)).trans h.2.2.1, (far _ _ (by omega)).trans h.2.2.2⟩
theorem Sl.lit {w : World} {v : Value} {xs : List Nat} (h : Sl w v xs) : ∃ ad n cap, v = .slice ad n cap := let ⟨ad, n, cap, hv, _⟩ := h; ⟨ad, n, cap, hv⟩
theorem Sl.poke {w : World} {v u x : Value} {xs : List Nat} (h : Sl w v xs) {p : Addr} (hp : w.cell? p = some x) (hx : ∀ k n, x ≠ .int k n) : Sl (w.setCell p u) v xs := by
 obtain ⟨ad, n, cap, hv, hl, hc, hm, hlm, hs⟩ := h
 refine ⟨ad, n, cap, hv, hl, hc, hm, hlm, fun h0 => ?_⟩
 obtain ⟨b, off, ha, hbs, hcell⟩ := hs h0
 refine ⟨b, off, ha, by simpa using hbs, fun i hi => ?_⟩
 have hne : p ≠ ⟨b, off + i, none⟩ := by
  rintro rfl
  rw [hcell i hi] at hp
  injection hp with hp
  exact hx _ _ hp.symm
 exact (World.cell?_setCell_other _ _ _ _ hne).trans (hcell i hi)
theorem Sl.box {w : World} {g : Nat} {v u u' : Value} {b : Bool} {s : Option Addr} {m c : Nat} {xs : List Nat} (h : Sl w v xs) (h0 : w.cell? ⟨g, 0, none⟩ = some (.bool b)) (h1 : w.cell? ⟨g, 1, none⟩ = some (.slice s m c)) :
  Sl ((w.setCell ⟨g, 0, none⟩ u).setCell ⟨g, 1, none⟩ u') v xs := by
 have hne : (⟨g, 0, none⟩ : Addr) ≠ ⟨g, 1, none⟩ := by simp
 exact (h.poke h0 (by simp)).poke ((World.cell?_setCell_other _ _ _ _ hne).trans h1) (by simp)
theorem below_box {w0 w : World} {g : Nat} {u u' : Value} (h : Below w0.heap.size w0 w) (hg : w0.heap.size ≤ g) : Below w0.heap.size w0 ((w.setCell ⟨g, 0, none⟩ u).setCell ⟨g, 1, none⟩ u') := (h.setCell hg _).setCell hg _
def iv (neg : Bool) (m : Nat) : Int := if neg then -(m : Int) else m
def CI (z : Int) (w : World) (v : Value) : Prop := ∃ s, v = .agg #[.bool (decide (z < 0)), s] ∧ Num z.natAbs w s
theorem iv_abs (neg : Bool) (m : Nat) : (iv neg m).natAbs = m := by unfold iv; split <;> omega
theorem iv_lt (neg : Bool) (m : Nat) : decide (iv neg m < 0) = (neg && decide (0 < m)) := by
 unfold iv; cases neg <;> simp
theorem imake_any (neg : Bool) (v : Value) (xs : List Nat) (w : World) (h : Sl w v xs) : Calls Tryz.prog 162 #[.bool neg, v] w (Ret w (CI (iv neg (val xs)))) := by
 have H := lH h
 clear h
 go_enter Tryz.func162, Tryz.ntmps162
 go_wp2_with fail
 refine (make_any _ _ _ (H.out.below ((bR_ _ _).alloc (lR_ _) _))).mono ?_
 rintro e w1 ⟨v1, rfl, h1, hb⟩
 obtain ⟨c0, c1, f0, f1⟩ := box_kept hb
 have hB := lH (below1 hb)
 have hlt : w.heap.size < w1.heap.size := Nat.lt_of_lt_of_le (by simp) hb.size
 clear hb
 have H1 := lH h1
 obtain ⟨ad, n, cap, rfl, hn, -⟩ := h1
 have hz : decide (iv neg (val xs) < 0) = (neg && decide (0 < n)) := by
  rw [iv_lt, ← hn]
  have := @sz_eq_zero (val xs)
  unfold sz at this
  congr 1
  simp only [decide_eq_decide]
  omega
 have fin : ∀ u : Bool, u = (neg && decide (0 < n)) → Ret w (CI (iv neg (val xs))) (.returned (.agg #[.bool u, .slice ad n cap])) ((w1.setCell ⟨w.heap.size, 0, none⟩ (.bool u)).setCell ⟨w.heap.size, 1, none⟩ (.slice ad n cap)) := by
  rintro u rfl
  refine ⟨_, rfl, ⟨_, by rw [hz], ?_⟩, below_box hB.out (lR_ _)⟩
  rw [iv_abs]
  exact Sl.box H1.out c0 c1
 cases neg
 ·
  obtain ⟨k0, k1⟩ := box_set (x' := .bool false) (y' := .slice ad n cap) c0 c1
  go_wp2
  refine bodyPost_ret (ret_int rfl _ _ w.heap.size _ _ rfl k0 k1) rfl ?_
  exact fin false rfl
 ·
  by_cases h0 : 0 < n
  ·
   have d0 : decide ((0 : Int) < n) = true := by simpa using h0
   obtain ⟨k0, k1⟩ := box_set (x' := .bool true) (y' := .slice ad n cap) c0 c1
   go_wp2
   refine bodyPost_ret (ret_int rfl _ _ w.heap.size _ _ rfl k0 k1) rfl ?_
   exact fin true (by simp [h0])
  ·
   have d0 : decide ((0 : Int) < n) = false := by simpa using h0
   obtain ⟨k0, k1⟩ := box_set (x' := .bool false) (y' := .slice ad n cap) c0 c1
   go_wp2
   refine bodyPost_ret (ret_int rfl _ _ w.heap.size _ _ rfl k0 k1) rfl ?_
   exact fin false (by simp [h0])
theorem rimake_any (neg : Bool) (v : Value) (xs : List Nat) (w : World) (h : Sl w v xs) : Calls Tryz.prog 96 #[.bool neg, v] w (Ret w (CI (iv neg (val xs)))) := by
 have H := lH h
 clear h
 go_enter Tryz.func96, Tryz.ntmps96
 go_wp2_with fail
 refine (rmake_any _ _ _ (H.out.below ((bR_ _ _).alloc (lR_ _) _))).mono ?_
 rintro e w1 ⟨v1, rfl, h1, hb⟩
 obtain ⟨c0, c1, f0, f1⟩ := box_kept hb
 have hB := lH (below1 hb)
 have hlt : w.heap.size < w1.heap.size := Nat.lt_of_lt_of_le (by simp) hb.size
 clear hb
 have H1 := lH h1
 obtain ⟨ad, n, cap, rfl, hn, -⟩ := h1
 have hz : decide (iv neg (val xs) < 0) = (neg && decide (0 < n)) := by
  rw [iv_lt, ← hn]
  have := @sz_eq_zero (val xs)
  unfold sz at this
  congr 1
  simp only [decide_eq_decide]
  omega
 have fin : ∀ u : Bool, u = (neg && decide (0 < n)) → Ret w (CI (iv neg (val xs))) (.returned (.agg #[.bool u, .slice ad n cap])) ((w1.setCell ⟨w.heap.size, 0, none⟩ (.bool u)).setCell ⟨w.heap.size, 1, none⟩ (.slice ad n cap)) := by
  rintro u rfl
  refine ⟨_, rfl, ⟨_, by rw [hz], ?_⟩, below_box hB.out (lR_ _)⟩
  rw [iv_abs]
  exact Sl.box H1.out c0 c1
 cases neg
 ·
  obtain ⟨k0, k1⟩ := box_set (x' := .bool false) (y' := .slice ad n cap) c0 c1
  go_wp2
  refine bodyPost_ret (ret_int rfl _ _ w.heap.size _ _ rfl k0 k1) rfl ?_
  exact fin false rfl
 ·
  by_cases h0 : 0 < n
  ·
   have d0 : decide ((0 : Int) < n) = true := by simpa using h0
   obtain ⟨k0, k1⟩ := box_set (x' := .bool true) (y' := .slice ad n cap) c0 c1
   go_wp2
   refine bodyPost_ret (ret_int rfl _ _ w.heap.size _ _ rfl k0 k1) rfl ?_
   exact fin true (by simp [h0])
  ·
   have d0 : decide ((0 : Int) < n) = false := by simpa using h0
   obtain ⟨k0, k1⟩ := box_set (x' := .bool false) (y' := .slice ad n cap) c0 c1
   go_wp2
   refine bodyPost_ret (ret_int rfl _ _ w.heap.size _ _ rfl k0 k1) rfl ?_
   exact fin false (by simp [h0])
def AI (z : Int) (L : Nat) (w : World) (v : Value) : Prop := ∃ neg s m, v = .agg #[.bool neg, s] ∧ Is m L w s ∧ iv neg m = z
def CL (z : Int) (L : Nat) (w : World) (v : Value) : Prop := CI z w v ∧ sz z.natAbs ≤ L
theorem CL.ai {z : Int} {L : Nat} {w : World} {v : Value} (h : CL z L w v) : AI z L w v := by
 obtain ⟨⟨s, h1, h2⟩, h3⟩ := h
 refine ⟨_, s, z.natAbs, h1, ⟨_, h2, val_limbs _, h3⟩, ?_⟩
 unfold iv
 by_cases hz : z < 0 <;> simp [hz] <;> omega
theorem CL.mono {z : Int} {L M : Nat} {w : World} {v : Value} (h : CL z L w v) (hl : L ≤ M) : CL z M w v := ⟨h.1, tL_ h.2 hl⟩
theorem imake_ai {neg : Bool} {m L : Nat} {s : Value} {w : World} (h : Is m L w s) : Calls Tryz.prog 162 #[.bool neg, s] w (Ret w (CL (iv neg m) L)) := by
 have hs := h.sz_le
 obtain ⟨xs, h, rfl, hl⟩ := h
 refine (imake_any _ _ _ _ h).mono ?_
 rintro e w' ⟨v, rfl, hn, hb⟩
 exact ⟨v, rfl, ⟨hn, by rw [iv_abs]; exact hs⟩, hb⟩
theorem rimake_ai {neg : Bool} {m L : Nat} {s : Value} {w : World} (h : Is m L w s) : Calls Tryz.prog 96 #[.bool neg, s] w (Ret w (CL (iv neg m) L)) := by
 have hs := h.sz_le
 obtain ⟨xs, h, rfl, hl⟩ := h
 refine (rimake_any _ _ _ _ h).mono ?_
 rintro e w' ⟨v, rfl, hn, hb⟩
 exact ⟨v, rfl, ⟨hn, by rw [iv_abs]; exact hs⟩, hb⟩
theorem iv_not (neg : Bool) (m : Nat) : iv (!neg) m = - iv neg m := by cases neg <;> simp [iv]
theorem iv_mul (na nb : Bool) (ma mb : Nat) : iv (!na == nb) (ma * mb) = iv na ma * iv nb mb := by
 cases na <;> cases nb <;> simp [iv, Int.natCast_mul, Int.neg_mul, Int.mul_neg]
theorem iv_add (na : Bool) (ma mb : Nat) : iv na (ma + mb) = iv na ma + iv na mb := by
 cases na <;> simp [iv] <;> omega
theorem imul_bx {L M : Nat} {ma mb : Nat} {sa sb : Value} {w : World} {na nb : Bool} (h : Is ma L w sa) (h' : Is mb M w sb) (hL : L ≤ 4294967296) (hM : M ≤ 4294967296) :
  Calls Tryz.prog 120 #[.agg #[.bool na, sa], .agg #[.bool nb, sb]] w (Ret w (CL (iv na ma * iv nb mb) (L + M))) := by
 have H := lH h
 have H' := lH h'
 clear h h'
 go_enter Tryz.func120, Tryz.ntmps120
 go_wp2_with fail
 obtain ⟨W3, hW3⟩ : ∃ W3, W3 = (((w.alloc (.cells #[.bool na, sa] 103)).alloc (.cells #[.bool nb, sb] 103)).alloc (.cells #[.bool false, .slice none 0 0] 103)) := ⟨_, rfl⟩
 have hBW : Below w.heap.size w W3.drew := by rw [hW3]; exact ((((bR_ _ _).alloc (lR_ _) _).alloc (by simp) _).alloc (by simp; omega) _).drew
 have A3 := lH (H.out.below hBW)
 have B3 := lH (H'.out.below hBW)
 have HBW := lH hBW
 clear hBW
 subst hW3
 go_region_held3 (fun w' => w'.cell? ⟨w.heap.size, 0, none⟩ = some (.bool na) ∧ w'.cell? ⟨w.heap.size, 1, none⟩ = some sa ∧ w'.cell? ⟨w.heap.size + 1, 0, none⟩ = some (.bool nb) ∧ w'.cell? ⟨w.heap.size + 1, 1, none⟩ = some sb)
  (first | exact boxes2s (boxes2 (hb1.trans (hb2.mono hb1.size))) | exact boxes2 (hb1.trans (hb2.mono hb1.size)) | exact boxes2 hb1 | go_keep)
  (first | (go_at_call 130; refine (mul_is A3.out B3.out hL hM).mono ?_; rintro e w1 ⟨v1, rfl, h1, hb1⟩)
         | (go_at_call 162; refine (imake_ai h1.is).mono ?_; rintro e w2 ⟨v2, rfl, ⟨⟨s2, rfl, h2⟩, hs2⟩, hb2⟩; obtain ⟨ad, n, cap, rfl⟩ := h2.lit; obtain ⟨c0, c1, f0, f1⟩ := box_kept (((bR_ _ _).drew).trans (hb1.trans (hb2.mono hb1.size))); rw [World.size_alloc, World.size_alloc] at c0 c1 f0 f1))
 obtain ⟨k0, k1⟩ := box_set (x' := .bool (decide (iv (!na == nb) (ma * mb) < 0))) (y' := .slice ad n cap) c0 c1
 go_wp2
 refine bodyPost_ret (ret_int rfl _ _ (w.heap.size + 1 + 1) _ _ rfl k0 k1) rfl ?_
 rw [← iv_mul]
 exact ⟨_, rfl, ⟨⟨_, rfl, Sl.box h2 c0 c1⟩, hs2⟩, below_box (HBW.out.trans ((hb1.trans (hb2.mono hb1.size)).mono HBW.out.size)) (by omega)⟩
theorem iadd_bx_false {L M : Nat} {ma mb : Nat} {sa sb : Value} {w : World}  (h : Is ma L w sa) (h' : Is mb M w sb) (hL : L ≤ 4294967296) (hM : M ≤ 4294967296) :
  Calls Tryz.prog 131 #[.agg #[.bool false, sa], .agg #[.bool false, sb]] w (Ret w (CL (iv false ma + iv false mb) (max L M + 1))) := by
 have H := lH h
 have H' := lH h'
 clear h h'
 go_enter Tryz.func131, Tryz.ntmps131
 go_wp2_with fail
 obtain ⟨W3, hW3⟩ : ∃ W3, W3 = (((w.alloc (.cells #[.bool false, sa] 103)).alloc (.cells #[.bool false, sb] 103)).alloc (.cells #[.bool false, .slice none 0 0] 103)) := ⟨_, rfl⟩
 have hBW : Below w.heap.size w W3.drew := by rw [hW3]; exact ((((bR_ _ _).alloc (lR_ _) _).alloc (by simp) _).alloc (by simp; omega) _).drew
 have A3 := lH (H.out.below hBW)
 have B3 := lH (H'.out.below hBW)
 have HBW := lH hBW
 clear hBW
 subst hW3
 go_region_held3 (fun w' => w'.cell? ⟨w.heap.size, 0, none⟩ = some (.bool false) ∧ w'.cell? ⟨w.heap.size, 1, none⟩ = some sa ∧ w'.cell? ⟨w.heap.size + 1, 0, none⟩ = some (.bool false) ∧ w'.cell? ⟨w.heap.size + 1, 1, none⟩ = some sb)
  (first | exact boxes2s (boxes2 (hb1.trans (hb2.mono hb1.size))) | exact boxes2 (hb1.trans (hb2.mono hb1.size)) | exact boxes2 hb1 | go_keep)
  (first | (go_at_call 173; refine (add_is A3.out B3.out hL hM).mono ?_; rintro e w1 ⟨v1, rfl, h1, hb1⟩)
         | (go_at_call 162; refine (imake_ai h1.is).mono ?_; rintro e w2 ⟨v2, rfl, ⟨⟨s2, rfl, h2⟩, hs2⟩, hb2⟩; obtain ⟨ad, n, cap, rfl⟩ := h2.lit; obtain ⟨c0, c1, f0, f1⟩ := box_kept (((bR_ _ _).drew).trans (hb1.trans (hb2.mono hb1.size))); rw [World.size_alloc, World.size_alloc] at c0 c1 f0 f1))
 obtain ⟨k0, k1⟩ := box_set (x' := .bool (decide (iv false (ma + mb) < 0))) (y' := .slice ad n cap) c0 c1
 go_wp2
 refine bodyPost_ret (ret_int rfl _ _ (w.heap.size + 1 + 1) _ _ rfl k0 k1) rfl ?_
 rw [← iv_add]
 exact ⟨_, rfl, ⟨⟨_, rfl, Sl.box h2 c0 c1⟩, hs2⟩, below_box (HBW.out.trans ((hb1.trans (hb2.mono hb1.size)).mono HBW.out.size)) (by omega)⟩
theorem iadd_bx_true {L M : Nat} {ma mb : Nat} {sa sb : Value} {w : World}  (h : Is ma L w sa) (h' : Is mb M w sb) (hL : L ≤ 4294967296) (hM : M ≤ 4294967296) :
  Calls Tryz.prog 131 #[.agg #[.bool true, sa], .agg #[.bool true, sb]] w (Ret w (CL (iv true ma + iv true mb) (max L M + 1))) := by
 have H := lH h
 have H' := lH h'
 clear h h'
 go_enter Tryz.func131, Tryz.ntmps131
 go_wp2_with fail
 obtain ⟨W3, hW3⟩ : ∃ W3, W3 = (((w.alloc (.cells #[.bool true, sa] 103)).alloc (.cells #[.bool true, sb] 103)).alloc (.cells #[.bool false, .slice none 0 0] 103)) := ⟨_, rfl⟩
 have hBW : Below w.heap.size w W3.drew := by rw [hW3]; exact ((((bR_ _ _).alloc (lR_ _) _).alloc (by simp) _).alloc (by simp; omega) _).drew
 have A3 := lH (H.out.below hBW)
 have B3 := lH (H'.out.below hBW)
 have HBW := lH hBW
 clear hBW
 subst hW3
 go_region_held3 (fun w' => w'.cell? ⟨w.heap.size, 0, none⟩ = some (.bool true) ∧ w'.cell? ⟨w.heap.size, 1, none⟩ = some sa ∧ w'.cell? ⟨w.heap.size + 1, 0, none⟩ = some (.bool true) ∧ w'.cell? ⟨w.heap.size + 1, 1, none⟩ = some sb)
  (first | exact boxes2s (boxes2 (hb1.trans (hb2.mono hb1.size))) | exact boxes2 (hb1.trans (hb2.mono hb1.size)) | exact boxes2 hb1 | go_keep)
  (first | (go_at_call 173; refine (add_is A3.out B3.out hL hM).mono ?_; rintro e w1 ⟨v1, rfl, h1, hb1⟩)
         | (go_at_call 162; refine (imake_ai h1.is).mono ?_; rintro e w2 ⟨v2, rfl, ⟨⟨s2, rfl, h2⟩, hs2⟩, hb2⟩; obtain ⟨ad, n, cap, rfl⟩ := h2.lit; obtain ⟨c0, c1, f0, f1⟩ := box_kept (((bR_ _ _).drew).trans (hb1.trans (hb2.mono hb1.size))); rw [World.size_alloc, World.size_alloc] at c0 c1 f0 f1))
 obtain ⟨k0, k1⟩ := box_set (x' := .bool (decide (iv true (ma + mb) < 0))) (y' := .slice ad n cap) c0 c1
 go_wp2
 refine bodyPost_ret (ret_int rfl _ _ (w.heap.size + 1 + 1) _ _ rfl k0 k1) rfl ?_
 rw [← iv_add]
 exact ⟨_, rfl, ⟨⟨_, rfl, Sl.box h2 c0 c1⟩, hs2⟩, below_box (HBW.out.trans ((hb1.trans (hb2.mono hb1.size)).mono HBW.out.size)) (by omega)⟩
theorem imul_ai {y z : Int} {L M : Nat} {u v : Value} {w : World} (h : AI y L w u) (h' : AI z M w v) (hL : L ≤ 4294967296) (hM : M ≤ 4294967296) :
  Calls Tryz.prog 120 #[u, v] w (Ret w (CL (y * z) (L + M))) := by
 obtain ⟨na, sa, ma, rfl, h, rfl⟩ := h
 obtain ⟨nb, sb, mb, rfl, h', rfl⟩ := h'
 exact imul_bx h h' hL hM
theorem riadd_bx_false {L M : Nat} {ma mb : Nat} {sa sb : Value} {w : World}  (h : Is ma L w sa) (h' : Is mb M w sb) (hL : L ≤ 4294967296) (hM : M ≤ 4294967296) :
  Calls Tryz.prog 139 #[.agg #[.bool false, sa], .agg #[.bool false, sb]] w (Ret w (CL (iv false ma + iv false mb) (max L M + 1))) := by
 have H := lH h
 have H' := lH h'
 clear h h'
 go_enter Tryz.func139, Tryz.ntmps139
 go_wp2_with fail
 obtain ⟨W3, hW3⟩ : ∃ W3, W3 = (((w.alloc (.cells #[.bool false, sa] 103)).alloc (.cells #[.bool false, sb] 103)).alloc (.cells #[.bool false, .slice none 0 0] 103)) := ⟨_, rfl⟩
 have hBW : Below w.heap.size w W3.drew := by rw [hW3]; exact ((((bR_ _ _).alloc (lR_ _) _).alloc (by simp) _).alloc (by simp; omega) _).drew
 have A3 := lH (H.out.below hBW)
 have B3 := lH (H'.out.below hBW)
 have HBW := lH hBW
 clear hBW
 subst hW3
 go_region_held3 (fun w' => w'.cell? ⟨w.heap.size, 0, none⟩ = some (.bool false) ∧ w'.cell? ⟨w.heap.size, 1, none⟩ = some sa ∧ w'.cell? ⟨w.heap.size + 1, 0, none⟩ = some (.bool false) ∧ w'.cell? ⟨w.heap.size + 1, 1, none⟩ = some sb)
  (first | exact boxes2s (boxes2 (hb1.trans (hb2.mono hb1.size))) | exact boxes2 (hb1.trans (hb2.mono hb1.size)) | exact boxes2 hb1 | go_keep)
  (first | (go_at_call 168; refine (radd_is A3.out B3.out hL hM).mono ?_; rintro e w1 ⟨v1, rfl, h1, hb1⟩)
         | (go_at_call 96; refine (rimake_ai h1.is).mono ?_; rintro e w2 ⟨v2, rfl, ⟨⟨s2, rfl, h2⟩, hs2⟩, hb2⟩; obtain ⟨ad, n, cap, rfl⟩ := h2.lit; obtain ⟨c0, c1, f0, f1⟩ := box_kept (((bR_ _ _).drew).trans (hb1.trans (hb2.mono hb1.size))); rw [World.size_alloc, World.size_alloc] at c0 c1 f0 f1))
 obtain ⟨k0, k1⟩ := box_set (x' := .bool (decide (iv false (ma + mb) < 0))) (y' := .slice ad n cap) c0 c1
 go_wp2
 refine bodyPost_ret (ret_int rfl _ _ (w.heap.size + 1 + 1) _ _ rfl k0 k1) rfl ?_
 rw [← iv_add]
 exact ⟨_, rfl, ⟨⟨_, rfl, Sl.box h2 c0 c1⟩, hs2⟩, below_box (HBW.out.trans ((hb1.trans (hb2.mono hb1.size)).mono HBW.out.size)) (by omega)⟩
theorem riadd_bx_true {L M : Nat} {ma mb : Nat} {sa sb : Value} {w : World}  (h : Is ma L w sa) (h' : Is mb M w sb) (hL : L ≤ 4294967296) (hM : M ≤ 4294967296) :
  Calls Tryz.prog 139 #[.agg #[.bool true, sa], .agg #[.bool true, sb]] w (Ret w (CL (iv true ma + iv true mb) (max L M + 1))) := by
 have H := lH h
 have H' := lH h'
 clear h h'
 go_enter Tryz.func139, Tryz.ntmps139
 go_wp2_with fail
 obtain ⟨W3, hW3⟩ : ∃ W3, W3 = (((w.alloc (.cells #[.bool true, sa] 103)).alloc (.cells #[.bool true, sb] 103)).alloc (.cells #[.bool false, .slice none 0 0] 103)) := ⟨_, rfl⟩
 have hBW : Below w.heap.size w W3.drew := by rw [hW3]; exact ((((bR_ _ _).alloc (lR_ _) _).alloc (by simp) _).alloc (by simp; omega) _).drew
 have A3 := lH (H.out.below hBW)
 have B3 := lH (H'.out.below hBW)
 have HBW := lH hBW
 clear hBW
 subst hW3
 go_region_held3 (fun w' => w'.cell? ⟨w.heap.size, 0, none⟩ = some (.bool true) ∧ w'.cell? ⟨w.heap.size, 1, none⟩ = some sa ∧ w'.cell? ⟨w.heap.size + 1, 0, none⟩ = some (.bool true) ∧ w'.cell? ⟨w.heap.size + 1, 1, none⟩ = some sb)
  (first | exact boxes2s (boxes2 (hb1.trans (hb2.mono hb1.size))) | exact boxes2 (hb1.trans (hb2.mono hb1.size)) | exact boxes2 hb1 | go_keep)
  (first | (go_at_call 168; refine (radd_is A3.out B3.out hL hM).mono ?_; rintro e w1 ⟨v1, rfl, h1, hb1⟩)
         | (go_at_call 96; refine (rimake_ai h1.is).mono ?_; rintro e w2 ⟨v2, rfl, ⟨⟨s2, rfl, h2⟩, hs2⟩, hb2⟩; obtain ⟨ad, n, cap, rfl⟩ := h2.lit; obtain ⟨c0, c1, f0, f1⟩ := box_kept (((bR_ _ _).drew).trans (hb1.trans (hb2.mono hb1.size))); rw [World.size_alloc, World.size_alloc] at c0 c1 f0 f1))
 obtain ⟨k0, k1⟩ := box_set (x' := .bool (decide (iv true (ma + mb) < 0))) (y' := .slice ad n cap) c0 c1
 go_wp2
 refine bodyPost_ret (ret_int rfl _ _ (w.heap.size + 1 + 1) _ _ rfl k0 k1) rfl ?_
 rw [← iv_add]
 exact ⟨_, rfl, ⟨⟨_, rfl, Sl.box h2 c0 c1⟩, hs2⟩, below_box (HBW.out.trans ((hb1.trans (hb2.mono hb1.size)).mono HBW.out.size)) (by omega)⟩
theorem Is.keep {n L : Nat} {w w' : World} {v : Value} (h : Is n L w v) (k : Keep w w') : Is n L w' v := let ⟨xs, h1, h2⟩ := h; ⟨xs, k _ _ h1, h2⟩
abbrev iK := @Is.keep
theorem Can.keep {n L : Nat} {w w' : World} {v : Value} (h : Can n L w v) (k : Keep w w') : Can n L w' v := ⟨k _ _ h.1, h.2⟩
theorem CI.keep {z : Int} {w w' : World} {v : Value} (h : CI z w v) (k : Keep w w') : CI z w' v := let ⟨s, h1, h2⟩ := h; ⟨s, h1, k _ _ h2⟩
theorem CL.keep {z : Int} {L : Nat} {w w' : World} {v : Value} (h : CL z L w v) (k : Keep w w') : CL z L w' v := ⟨h.1.keep k, h.2⟩
theorem Is.lit {n L : Nat} {w : World} {v : Value} (h : Is n L w v) : ∃ ad m cap, v = .slice ad m cap := let ⟨_, h1, _⟩ := h; Sl.lit h1
theorem CL.lit {z : Int} {L : Nat} {w : World} {v : Value} (h : CL z L w v) : ∃ ad n cap, v = .agg #[.bool (decide (z < 0)), .slice ad n cap] := by
 obtain ⟨⟨s, rfl, h2⟩, -⟩ := h
 obtain ⟨ad, n, cap, rfl⟩ := Sl.lit h2
 exact ⟨ad, n, cap, rfl⟩
theorem boxes_1 (w : World) (c : Array Value) (t : TypeId) {W : World} (hW : W = w.alloc (.cells c t)) :
  Box W w.heap.size t c ∧ Keep w W ∧ Below w.heap.size w W := by
 subst hW; exact ⟨Box.new _ _ _, Keep.alloc _ _, (bR_ _ _).alloc (lR_ _) _⟩
theorem boxes_2 (w : World) (c c' : Array Value) (t t' : TypeId) {W : World} (hW : W = (w.alloc (.cells c t)).alloc (.cells c' t')) :
  Box W w.heap.size t c ∧ Box W (w.heap.size + 1) t' c' ∧ Keep w W ∧ Below w.heap.size w W := by
 subst hW; exact ⟨(Box.new _ _ _).alloc _, Box.newAt _ _ _ (by simp), (Keep.alloc _ _).trans (Keep.alloc _ _), ((bR_ _ _).alloc (lR_ _) _).alloc (by simp) _⟩
theorem boxes_3 (w : World) (c c' c'' : Array Value) (t t' t'' : TypeId) {W : World} (hW : W = ((w.alloc (.cells c t)).alloc (.cells c' t')).alloc (.cells c'' t'')) :
  Box W w.heap.size t c ∧ Box W (w.heap.size + 1) t' c' ∧ Box W (w.heap.size + 1 + 1) t'' c'' ∧ Keep w W ∧ Below w.heap.size w W := by
 subst hW; exact ⟨((Box.new _ _ _).alloc _).alloc _, (Box.newAt _ _ _ (by simp)).alloc _, Box.newAt _ _ _ (by simp), ((Keep.alloc _ _).trans (Keep.alloc _ _)).trans (Keep.alloc _ _), (((bR_ _ _).alloc (lR_ _) _).alloc (by simp) _).alloc (by simp; omega) _⟩
theorem boxes_4 (w : World) (c c' c'' c''' : Array Value) (t t' t'' t''' : TypeId) {W : World} (hW : W = (((w.alloc (.cells c t)).alloc (.cells c' t')).alloc (.cells c'' t'')).alloc (.cells c''' t''')) :
  Box W w.heap.size t c ∧ Box W (w.heap.size + 1) t' c' ∧ Box W (w.heap.size + 1 + 1) t'' c'' ∧ Box W (w.heap.size + 1 + 1 + 1) t''' c''' ∧ Keep w W ∧ Below w.heap.size w W := by
 subst hW; exact ⟨(((Box.new _ _ _).alloc _).alloc _).alloc _, ((Box.newAt _ _ _ (by simp)).alloc _).alloc _, (Box.newAt _ _ _ (by simp)).alloc _, Box.newAt _ _ _ (by simp),
  (((Keep.alloc _ _).trans (Keep.alloc _ _)).trans (Keep.alloc _ _)).trans (Keep.alloc _ _), ((((bR_ _ _).alloc (lR_ _) _).alloc (by simp) _).alloc (by simp; omega) _).alloc (by simp; omega) _⟩
theorem iv_sub (na : Bool) {ma mb : Nat} (h : mb ≤ ma) : iv na (ma - mb) = iv na ma + iv (!na) mb := by
 cases na <;> simp [iv] <;> omega
theorem iv_sub' (na : Bool) {ma mb : Nat} (h : ma ≤ mb) : iv (!na) (mb - ma) = iv na ma + iv (!na) mb := by
 cases na <;> simp [iv] <;> omega
theorem Box.pcall {w w' : World} {g : Nat} {t : TypeId} {cs : Array Value} (hb : Below w.heap.size w w') (h : Box w g t cs) : Box w' g t cs := h.call hb
abbrev xP := @Box.pcall
theorem CL.cast {y z : Int} {L : Nat} {w : World} {v : Value} (e : y = z) (h : CL y L w v) : CL z L w v := e ▸ h
theorem stored2 {W W' : World} {g : Nat} {t : TypeId} {x y x' y' : Value} (hW : W' = (W.setCell ⟨g, 0, none⟩ x').setCell ⟨g, 1, none⟩ y') (X : Box W g t #[x, y]) (hx : NoInt x) (hy : NoInt y) :
  Box W' g t #[x', y'] ∧ Keep W W' ∧ (∀ g' t' cs, Box W g' t' cs → g' ≠ g → Box W' g' t' cs) ∧ (∀ w0 : World, Below w0.heap.size w0 W → w0.heap.size ≤ g → Below w0.heap.size w0 W') := by
 subst hW; exact ⟨X.set2, Keep.set2 X hx hy, fun _ _ _ h hne => h.far2 hne, fun _ h hg => below_set2 h hg⟩
theorem stored3 {W W' : World} {g : Nat} {t : TypeId} {x y z x' y' z' : Value} (hW : W' = ((W.setCell ⟨g, 0, none⟩ x').setCell ⟨g, 1, none⟩ y').setCell ⟨g, 2, none⟩ z') (X : Box W g t #[x, y, z]) (hx : NoInt x) (hy : NoInt y) (hz : NoInt z) :
  Box W' g t #[x', y', z'] ∧ Keep W W' ∧ (∀ g' t' cs, Box W g' t' cs → g' ≠ g → Box W' g' t' cs) ∧ (∀ w0 : World, Below w0.heap.size w0 W → w0.heap.size ≤ g → Below w0.heap.size w0 W') := by
 subst hW; exact ⟨X.set3, Keep.set3 X hx hy hz, fun _ _ _ h hne => h.far3 hne, fun _ h hg => below_set3 h hg⟩
theorem swapped2 {W W' : World} {g h : Nat} {t t' : TypeId} {x y x' y' u v u' v' : Value} (hW : W' = (((W.setCell ⟨g, 0, none⟩ x').setCell ⟨g, 1, none⟩ y').setCell ⟨h, 0, none⟩ u').setCell ⟨h, 1, none⟩ v')
  (X : Box W g t #[x, y]) (Y : Box W h t' #[u, v]) (hne : g ≠ h) (hx : NoInt x) (hy : NoInt y) (hu : NoInt u) (hv : NoInt v) :
  Box W' g t #[x', y'] ∧ Box W' h t' #[u', v'] ∧ Keep W W' ∧ (∀ g' t' cs, Box W g' t' cs → g' ≠ g → g' ≠ h → Box W' g' t' cs) ∧ (∀ w0 : World, Below w0.heap.size w0 W → w0.heap.size ≤ g → w0.heap.size ≤ h → Below w0.heap.size w0 W') := by
 subst hW
 have Y1 := Y.far2 (x := x') (y := y') (Ne.symm hne)
 exact ⟨X.set2.far2 hne, Y1.set2, (Keep.set2 X hx hy).trans (Keep.set2 Y1 hu hv), fun _ _ _ k h1 h2 => (k.far2 h1).far2 h2, fun _ k h1 h2 => below_set2 (below_set2 k h1) h2⟩
theorem ret_cl {fn : Func} {p : Tmp} {a : Act} {w0 W : World} {g L n cap : Nat} {t : TypeId} {x y : Value} {z : Int} {b : Bool} {ad : Option Addr} (hres : fn.results = #[.cell p 103])
  (hp : a.tmps.getD p undef = .pointer (some ⟨g, 0, none⟩)) (hd : a.defers = []) (X : Box W g t #[x, y]) (hx : NoInt x) (hy : NoInt y) (h : CL z L W (.agg #[.bool b, .slice ad n cap]))
  (HB : Below w0.heap.size w0 W) (hg : w0.heap.size ≤ g) : bodyPost Tryz.prog fn (Ret w0 (CL z L)) .ret a ((W.setCell ⟨g, 0, none⟩ (.bool b)).setCell ⟨g, 1, none⟩ (.slice ad n cap)) :=
 have k := X.set2 (x' := .bool b) (y' := .slice ad n cap)
 bodyPost_ret (ret_int hres _ _ g _ _ hp (k.cell 0 rfl) (k.cell 1 rfl)) hd ⟨_, rfl, h.keep (Keep.set2 X hx hy), below_set2 HB hg⟩
theorem cmpN_ge {a b : Nat} (h : b ≤ a) : decide (cmpN a b < 0) = false := by
 unfold cmpN; rw [if_neg (by omega)]; split <;> rfl
theorem Ret.mono_cl {z : Int} {L M : Nat} {w w' : World} {e : Ending} (h : Ret w (CL z L) e w') (hl : L ≤ M) : Ret w (CL z M) e w' :=
 let ⟨v, h1, h2, h3⟩ := h; ⟨v, h1, h2.mono hl, h3⟩
theorem iadd_ge_false {L M : Nat} {ma mb : Nat} {sa sb : Value} {w : World} (k : Int) (hk : cmpN ma mb = k) (hk0 : decide (k < 0) = false) (hc : mb ≤ ma) (ha : Is ma L w sa) (hb : Is mb M w sb) (hL : L ≤ 4294967296) (hM : M ≤ 4294967296) :
  Calls Tryz.prog 131 #[.agg #[.bool false, sa], .agg #[.bool true, sb]] w (Ret w (CL (iv false ma + iv true mb) (max L M))) := by
 have Ha := lH ha
 have Hb := lH hb
 have Hc := lH hc
 have Hk := lH hk
 clear ha hb hc hk
 go_enter Tryz.func131, Tryz.ntmps131
 go_wp2_with fail
 obtain ⟨W, hW⟩ : ∃ W, W = (((w.alloc (.cells #[.bool false, sa] 103)).alloc (.cells #[.bool true, sb] 103)).alloc (.cells #[.bool false, .slice none 0 0] 103)) := ⟨_, rfl⟩
 rw [← hW]
 obtain ⟨x1, x2, x3, hk, hb⟩ := boxes_3 _ _ _ _ _ _ _ hW
 clear hW
 have Ha := lH (iK Ha.out hk)
 have Hb := lH (iK Hb.out hk)
 have X1 := lH x1
 have X2 := lH x2
 have X3 := lH x3
 have HB := lH hb
 clear hk hb x1 x2 x3
 (first | (have hcall := cmp_is k Ha.out Hb.out Hk.out; refine cM hcall ?_; clear hcall) | refine cM (cmp_is k Ha.out Hb.out Hk.out) ?_)
 rintro e w1 ⟨v1, rfl, rfl, hb⟩
 have Ha := lH (iK Ha.out (kC hb))
 have Hb := lH (iK Hb.out (kC hb))
 have X1 := lH (xP hb X1.out)
 have X2 := lH (xP hb X2.out)
 have X3 := lH (xP hb X3.out)
 have HB := lH (bC HB.out hb)
 clear hb
 obtain ⟨c10, c11, f10, f11⟩ := X1.out.c2
 obtain ⟨c20, c21, f20, f21⟩ := X2.out.c2
 obtain ⟨c30, c31, f30, f31⟩ := X3.out.c2
 go_wp2_with fail
 clear c10 c11 f10 f11 c20 c21 f20 f21 c30 c31 f30 f31
 (first | (have hcall := sub_is2 (subErr_le Hc.out) Ha.out Hb.out hL; refine cM hcall ?_; clear hcall) | refine cM (sub_is2 (subErr_le Hc.out) Ha.out Hb.out hL) ?_)
 rintro e w2 ⟨t2, rfl, ⟨v2, rfl, hd⟩, hb⟩
 have X1 := lH (xP hb X1.out)
 have X2 := lH (xP hb X2.out)
 have X3 := lH (xP hb X3.out)
 have HB := lH (bC HB.out hb)
 have Hd := lH hd
 clear hb hd
 obtain ⟨c10, c11, f10, f11⟩ := X1.out.c2
 obtain ⟨c20, c21, f20, f21⟩ := X2.out.c2
 obtain ⟨c30, c31, f30, f31⟩ := X3.out.c2
 go_wp2_with fail
 clear c10 c11 f10 f11 c20 c21 f20 f21 c30 c31 f30 f31
 (first | (have hcall := imake_ai (neg := false) Hd.out.is; refine cM hcall ?_; clear hcall) | refine cM (imake_ai (neg := false) Hd.out.is) ?_)
 rintro e w3 ⟨v3, rfl, hr, hb⟩
 obtain ⟨adr, nr, capr, rfl⟩ := hr.lit
 have X1 := lH (xP hb X1.out)
 have X2 := lH (xP hb X2.out)
 have X3 := lH (xP hb X3.out)
 have HB := lH (bC HB.out hb)
 have Hr := lH hr
 clear hb hr
 have e0 := iv_sub false Hc.out
 have Hs := lH (CL.mono (CL.cast e0 Hr.out) (Nat.le_max_left L M))
 clear e0 Hc Hk
 obtain ⟨c10, c11, f10, f11⟩ := X1.out.c2
 obtain ⟨c20, c21, f20, f21⟩ := X2.out.c2
 obtain ⟨c30, c31, f30, f31⟩ := X3.out.c2
 go_wp2
 exact ret_cl rfl rfl rfl X3.out (nB_ _) (nS_ _ _ _) Hs.out HB.out (by omega)
theorem riadd_ge_false {L M : Nat} {ma mb : Nat} {sa sb : Value} {w : World} (hc : mb ≤ ma) (ha : Is ma L w sa) (hb : Is mb M w sb) (hL : L ≤ 4294967296) (hM : M ≤ 4294967296) :
  Calls Tryz.prog 139 #[.agg #[.bool false, sa], .agg #[.bool true, sb]] w (Ret w (CL (iv false ma + iv true mb) (max L M))) := by
 have Ha := lH ha
 have Hb := lH hb
 have Hc := lH hc
 clear ha hb hc
 go_enter Tryz.func139, Tryz.ntmps139
 go_wp2_with fail
 obtain ⟨W, hW⟩ : ∃ W, W = (((w.alloc (.cells #[.bool false, sa] 103)).alloc (.cells #[.bool true, sb] 103)).alloc (.cells #[.bool false, .slice none 0 0] 103)) := ⟨_, rfl⟩
 rw [← hW]
 obtain ⟨x1, x2, x3, hk, hb⟩ := boxes_3 _ _ _ _ _ _ _ hW
 clear hW
 have Ha := lH (iK Ha.out hk)
 have Hb := lH (iK Hb.out hk)
 have X1 := lH x1
 have X2 := lH x2
 have X3 := lH x3
 have HB := lH hb
 clear hk hb x1 x2 x3
 (first | (have hcall := rsub_is2 (subErr_le Hc.out) Ha.out Hb.out hL; refine cM hcall ?_; clear hcall) | refine cM (rsub_is2 (subErr_le Hc.out) Ha.out Hb.out hL) ?_)
 rintro e w1 ⟨t1, rfl, ⟨v1, rfl, hd⟩, hb⟩
 have X1 := lH (xP hb X1.out)
 have X2 := lH (xP hb X2.out)
 have X3 := lH (xP hb X3.out)
 have HB := lH (bC HB.out hb)
 have Hd := lH hd
 clear hb hd
 obtain ⟨c10, c11, f10, f11⟩ := X1.out.c2
 obtain ⟨c20, c21, f20, f21⟩ := X2.out.c2
 obtain ⟨c30, c31, f30, f31⟩ := X3.out.c2
 go_wp2_with fail
 clear c10 c11 f10 f11 c20 c21 f20 f21 c30 c31 f30 f31
 (first | (have hcall := rimake_ai (neg := false) Hd.out.is; refine cM hcall ?_; clear hcall) | refine cM (rimake_ai (neg := false) Hd.out.is) ?_)
 rintro e w2 ⟨v2, rfl, hr, hb⟩
 obtain ⟨adr, nr, capr, rfl⟩ := hr.lit
 have X1 := lH (xP hb X1.out)
 have X2 := lH (xP hb X2.out)
 have X3 := lH (xP hb X3.out)
 have HB := lH (bC HB.out hb)
 have Hr := lH hr
 clear hb hr
 have e0 := iv_sub false Hc.out
 have Hs := lH (CL.mono (CL.cast e0 Hr.out) (Nat.le_max_left L M))
 clear e0 Hc
 obtain ⟨c10, c11, f10, f11⟩ := X1.out.c2
 obtain ⟨c20, c21, f20, f21⟩ := X2.out.c2
 obtain ⟨c30, c31, f30, f31⟩ := X3.out.c2
 go_wp2
 exact ret_cl rfl rfl rfl X3.out (nB_ _) (nS_ _ _ _) Hs.out HB.out (by omega)
theorem iadd_lt_false {L M : Nat} {ma mb : Nat} {p1 p2 : Option Addr} {n1 n2 q1 q2 : Nat} {w : World} (k : Int) (hk : cmpN ma mb = k) (hk0 : decide (k < 0) = true) (hc : ma < mb) (ha : Is ma L w (.slice p1 n1 q1)) (hb : Is mb M w (.slice p2 n2 q2)) (hL : L ≤ 4294967296) (hM : M ≤ 4294967296) :
  Calls Tryz.prog 131 #[.agg #[.bool false, .slice p1 n1 q1], .agg #[.bool true, .slice p2 n2 q2]] w (Ret w (CL (iv false ma + iv true mb) (max L M))) := by
 have Ha := lH ha
 have Hb := lH hb
 have Hc := lH hc
 have Hk := lH hk
 clear ha hb hc hk
 go_enter Tryz.func131, Tryz.ntmps131
 go_wp2_with fail
 obtain ⟨W, hW⟩ : ∃ W, W = (((w.alloc (.cells #[.bool false, .slice p1 n1 q1] 103)).alloc (.cells #[.bool true, .slice p2 n2 q2] 103)).alloc (.cells #[.bool false, .slice none 0 0] 103)) := ⟨_, rfl⟩
 rw [← hW]
 obtain ⟨x1, x2, x3, hk, hb⟩ := boxes_3 _ _ _ _ _ _ _ hW
 clear hW
 have Ha := lH (iK Ha.out hk)
 have Hb := lH (iK Hb.out hk)
 have X1 := lH x1
 have X2 := lH x2
 have X3 := lH x3
 have HB := lH hb
 clear hk hb x1 x2 x3
 (first | (have hcall := cmp_is k Ha.out Hb.out Hk.out; refine cM hcall ?_; clear hcall) | refine cM (cmp_is k Ha.out Hb.out Hk.out) ?_)
 rintro e w1 ⟨v1, rfl, rfl, hb⟩
 have Ha := lH (iK Ha.out (kC hb))
 have Hb := lH (iK Hb.out (kC hb))
 have X1 := lH (xP hb X1.out)
 have X2 := lH (xP hb X2.out)
 have X3 := lH (xP hb X3.out)
 have HB := lH (bC HB.out hb)
 clear hb
 obtain ⟨c10, c11, f10, f11⟩ := X1.out.c2
 obtain ⟨c20, c21, f20, f21⟩ := X2.out.c2
 obtain ⟨c30, c31, f30, f31⟩ := X3.out.c2
 go_wp2_with fail
 clear c10 c11 f10 f11 c20 c21 f20 f21 c30 c31 f30 f31
 obtain ⟨W2, hW⟩ : ∃ W2, W2 = (World.setCell (World.setCell (World.setCell (World.setCell w1 ⟨w.heap.size, 0, none⟩ (.bool true)) ⟨w.heap.size, 1, none⟩ (.slice p2 n2 q2)) ⟨w.heap.size + 1, 0, none⟩ (.bool false)) ⟨w.heap.size + 1, 1, none⟩ (.slice p1 n1 q1)) := ⟨_, rfl⟩
 rw [← hW]
 obtain ⟨x1, x2, hk, hf, hbb⟩ := swapped2 hW X1.out X2.out (by omega) (by first | exact nB_ _ | exact nS_ _ _ _ | exact Ha.out.noInt | exact Hb.out.noInt) (by first | exact nB_ _ | exact nS_ _ _ _ | exact Ha.out.noInt | exact Hb.out.noInt) (by first | exact nB_ _ | exact nS_ _ _ _ | exact Ha.out.noInt | exact Hb.out.noInt) (by first | exact nB_ _ | exact nS_ _ _ _ | exact Ha.out.noInt | exact Hb.out.noInt)
 have Ha := lH (iK Ha.out hk)
 have Hb := lH (iK Hb.out hk)
 have X1 := lH x1
 have X2 := lH x2
 have X3 := lH (hf _ _ _ X3.out (by omega) (by omega))
 have HB := lH (hbb _ HB.out (by omega) (by omega))
 clear hW hk hf hbb x1 x2
 (first | (have hcall := sub_is2 (subErr_le (Nat.le_of_lt Hc.out)) Hb.out Ha.out hM; refine cM hcall ?_; clear hcall) | refine cM (sub_is2 (subErr_le (Nat.le_of_lt Hc.out)) Hb.out Ha.out hM) ?_)
 rintro e w3 ⟨t3, rfl, ⟨v3, rfl, hd⟩, hb⟩
 have X1 := lH (xP hb X1.out)
 have X2 := lH (xP hb X2.out)
 have X3 := lH (xP hb X3.out)
 have HB := lH (bC HB.out hb)
 have Hd := lH hd
 clear hb hd
 obtain ⟨c10, c11, f10, f11⟩ := X1.out.c2
 obtain ⟨c20, c21, f20, f21⟩ := X2.out.c2
 obtain ⟨c30, c31, f30, f31⟩ := X3.out.c2
 go_wp2_with fail
 clear c10 c11 f10 f11 c20 c21 f20 f21 c30 c31 f30 f31
 (first | (have hcall := imake_ai (neg := true) Hd.out.is; refine cM hcall ?_; clear hcall) | refine cM (imake_ai (neg := true) Hd.out.is) ?_)
 rintro e w4 ⟨v4, rfl, hr, hb⟩
 obtain ⟨adr, nr, capr, rfl⟩ := hr.lit
 have X1 := lH (xP hb X1.out)
 have X2 := lH (xP hb X2.out)
 have X3 := lH (xP hb X3.out)
 have HB := lH (bC HB.out hb)
 have Hr := lH hr
 clear hb hr
 have e0 := iv_sub' false (Nat.le_of_lt Hc.out)
 have Hs := lH (CL.mono (CL.cast e0 Hr.out) (Nat.le_max_right L M))
 clear e0 Hc Hk
 obtain ⟨c10, c11, f10, f11⟩ := X1.out.c2
 obtain ⟨c20, c21, f20, f21⟩ := X2.out.c2
 obtain ⟨c30, c31, f30, f31⟩ := X3.out.c2
 go_wp2
 exact ret_cl rfl rfl rfl X3.out (nB_ _) (nS_ _ _ _) Hs.out HB.out (by omega)
theorem riadd_lt_false {L M : Nat} {ma mb : Nat} {sa sb : Value} {w : World} (hc : ma < mb) (ha : Is ma L w sa) (hb : Is mb M w sb) (hL : L ≤ 4294967296) (hM : M ≤ 4294967296) :
  Calls Tryz.prog 139 #[.agg #[.bool false, sa], .agg #[.bool true, sb]] w (Ret w (CL (iv false ma + iv true mb) (max L M))) := by
 have Ha := lH ha
 have Hb := lH hb
 have Hc := lH hc
 clear ha hb hc
 go_enter Tryz.func139, Tryz.ntmps139
 go_wp2_with fail
 obtain ⟨W, hW⟩ : ∃ W, W = (((w.alloc (.cells #[.bool false, sa] 103)).alloc (.cells #[.bool true, sb] 103)).alloc (.cells #[.bool false, .slice none 0 0] 103)) := ⟨_, rfl⟩
 rw [← hW]
 obtain ⟨x1, x2, x3, hk, hb⟩ := boxes_3 _ _ _ _ _ _ _ hW
 clear hW
 have Ha := lH (iK Ha.out hk)
 have Hb := lH (iK Hb.out hk)
 have X1 := lH x1
 have X2 := lH x2
 have X3 := lH x3
 have HB := lH hb
 clear hk hb x1 x2 x3
 (first | (have hcall := rsub_is2 (subErr_lt Hc.out) Ha.out Hb.out hL; refine cM hcall ?_; clear hcall) | refine cM (rsub_is2 (subErr_lt Hc.out) Ha.out Hb.out hL) ?_)
 rintro e w1 ⟨t1, rfl, ⟨v1, rfl, hy⟩, hb⟩
 have Ha := lH (iK Ha.out (kC hb))
 have Hb := lH (iK Hb.out (kC hb))
 have X1 := lH (xP hb X1.out)
 have X2 := lH (xP hb X2.out)
 have X3 := lH (xP hb X3.out)
 have HB := lH (bC HB.out hb)
 have Hy := lH hy
 clear hb hy
 obtain ⟨c10, c11, f10, f11⟩ := X1.out.c2
 obtain ⟨c20, c21, f20, f21⟩ := X2.out.c2
 obtain ⟨c30, c31, f30, f31⟩ := X3.out.c2
 go_wp2_with fail
 clear c10 c11 f10 f11 c20 c21 f20 f21 c30 c31 f30 f31
 (first | (have hcall := rsub_is2 (subErr_le (Nat.le_of_lt Hc.out)) Hb.out Ha.out hM; refine cM hcall ?_; clear hcall) | refine cM (rsub_is2 (subErr_le (Nat.le_of_lt Hc.out)) Hb.out Ha.out hM) ?_)
 rintro e w2 ⟨t2, rfl, ⟨v2, rfl, hd⟩, hb⟩
 have X1 := lH (xP hb X1.out)
 have X2 := lH (xP hb X2.out)
 have X3 := lH (xP hb X3.out)
 have HB := lH (bC HB.out hb)
 have Hd := lH hd
 clear hb hd
 obtain ⟨c10, c11, f10, f11⟩ := X1.out.c2
 obtain ⟨c20, c21, f20, f21⟩ := X2.out.c2
 obtain ⟨c30, c31, f30, f31⟩ := X3.out.c2
 go_wp2_with fail
 clear c10 c11 f10 f11 c20 c21 f20 f21 c30 c31 f30 f31
 (first | (have hcall := rimake_ai (neg := true) Hd.out.is; refine cM hcall ?_; clear hcall) | refine cM (rimake_ai (neg := true) Hd.out.is) ?_)
 rintro e w3 ⟨v3, rfl, hr, hb⟩
 obtain ⟨adr, nr, capr, rfl⟩ := hr.lit
 have X1 := lH (xP hb X1.out)
 have X2 := lH (xP hb X2.out)
 have X3 := lH (xP hb X3.out)
 have HB := lH (bC HB.out hb)
 have Hr := lH hr
 clear hb hr
 have e0 := iv_sub' false (Nat.le_of_lt Hc.out)
 have Hs := lH (CL.mono (CL.cast e0 Hr.out) (Nat.le_max_right L M))
 clear e0 Hc
 obtain ⟨c10, c11, f10, f11⟩ := X1.out.c2
 obtain ⟨c20, c21, f20, f21⟩ := X2.out.c2
 obtain ⟨c30, c31, f30, f31⟩ := X3.out.c2
 go_wp2
 exact ret_cl rfl rfl rfl X3.out (nB_ _) (nS_ _ _ _) Hs.out HB.out (by omega)
theorem iadd_ge_true {L M : Nat} {ma mb : Nat} {sa sb : Value} {w : World} (k : Int) (hk : cmpN ma mb = k) (hk0 : decide (k < 0) = false) (hc : mb ≤ ma) (ha : Is ma L w sa) (hb : Is mb M w sb) (hL : L ≤ 4294967296) (hM : M ≤ 4294967296) :
  Calls Tryz.prog 131 #[.agg #[.bool true, sa], .agg #[.bool false, sb]] w (Ret w (CL (iv true ma + iv false mb) (max L M))) := by
 have Ha := lH ha
 have Hb := lH hb
 have Hc := lH hc
 have Hk := lH hk
 clear ha hb hc hk
 go_enter Tryz.func131, Tryz.ntmps131
 go_wp2_with fail
 obtain ⟨W, hW⟩ : ∃ W, W = (((w.alloc (.cells #[.bool true, sa] 103)).alloc (.cells #[.bool false, sb] 103)).alloc (.cells #[.bool false, .slice none 0 0] 103)) := ⟨_, rfl⟩
 rw [← hW]
 obtain ⟨x1, x2, x3, hk, hb⟩ := boxes_3 _ _ _ _ _ _ _ hW
 clear hW
 have Ha := lH (iK Ha.out hk)
 have Hb := lH (iK Hb.out hk)
 have X1 := lH x1
 have X2 := lH x2
 have X3 := lH x3
 have HB := lH hb
 clear hk hb x1 x2 x3
 (first | (have hcall := cmp_is k Ha.out Hb.out Hk.out; refine cM hcall ?_; clear hcall) | refine cM (cmp_is k Ha.out Hb.out Hk.out) ?_)
 rintro e w1 ⟨v1, rfl, rfl, hb⟩
 have Ha := lH (iK Ha.out (kC hb))
 have Hb := lH (iK Hb.out (kC hb))
 have X1 := lH (xP hb X1.out)
 have X2 := lH (xP hb X2.out)
 have X3 := lH (xP hb X3.out)
 have HB := lH (bC HB.out hb)
 clear hb
 obtain ⟨c10, c11, f10, f11⟩ := X1.out.c2
 obtain ⟨c20, c21, f20, f21⟩ := X2.out.c2
 obtain ⟨c30, c31, f30, f31⟩ := X3.out.c2
 go_wp2_with fail
 clear c10 c11 f10 f11 c20 c21 f20 f21 c30 c31 f30 f31
 (first | (have hcall := sub_is2 (subErr_le Hc.out) Ha.out Hb.out hL; refine cM hcall ?_; clear hcall) | refine cM (sub_is2 (subErr_le Hc.out) Ha.out Hb.out hL) ?_)
 rintro e w2 ⟨t2, rfl, ⟨v2, rfl, hd⟩, hb⟩
 have X1 := lH (xP hb X1.out)
 have X2 := lH (xP hb X2.out)
 have X3 := lH (xP hb X3.out)
 have HB := lH (bC HB.out hb)
 have Hd := lH hd
 clear hb hd
 obtain ⟨c10, c11, f10, f11⟩ := X1.out.c2
 obtain ⟨c20, c21, f20, f21⟩ := X2.out.c2
 obtain ⟨c30, c31, f30, f31⟩ := X3.out.c2
 go_wp2_with fail
 clear c10 c11 f10 f11 c20 c21 f20 f21 c30 c31 f30 f31
 (first | (have hcall := imake_ai (neg := true) Hd.out.is; refine cM hcall ?_; clear hcall) | refine cM (imake_ai (neg := true) Hd.out.is) ?_)
 rintro e w3 ⟨v3, rfl, hr, hb⟩
 obtain ⟨adr, nr, capr, rfl⟩ := hr.lit
 have X1 := lH (xP hb X1.out)
 have X2 := lH (xP hb X2.out)
 have X3 := lH (xP hb X3.out)
 have HB := lH (bC HB.out hb)
 have Hr := lH hr
 clear hb hr
 have e0 := iv_sub true Hc.out
 have Hs := lH (CL.mono (CL.cast e0 Hr.out) (Nat.le_max_left L M))
 clear e0 Hc Hk
 obtain ⟨c10, c11, f10, f11⟩ := X1.out.c2
 obtain ⟨c20, c21, f20, f21⟩ := X2.out.c2
 obtain ⟨c30, c31, f30, f31⟩ := X3.out.c2
 go_wp2
 exact ret_cl rfl rfl rfl X3.out (nB_ _) (nS_ _ _ _) Hs.out HB.out (by omega)
theorem riadd_ge_true {L M : Nat} {ma mb : Nat} {sa sb : Value} {w : World} (hc : mb ≤ ma) (ha : Is ma L w sa) (hb : Is mb M w sb) (hL : L ≤ 4294967296) (hM : M ≤ 4294967296) :
  Calls Tryz.prog 139 #[.agg #[.bool true, sa], .agg #[.bool false, sb]] w (Ret w (CL (iv true ma + iv false mb) (max L M))) := by
 have Ha := lH ha
 have Hb := lH hb
 have Hc := lH hc
 clear ha hb hc
 go_enter Tryz.func139, Tryz.ntmps139
 go_wp2_with fail
 obtain ⟨W, hW⟩ : ∃ W, W = (((w.alloc (.cells #[.bool true, sa] 103)).alloc (.cells #[.bool false, sb] 103)).alloc (.cells #[.bool false, .slice none 0 0] 103)) := ⟨_, rfl⟩
 rw [← hW]
 obtain ⟨x1, x2, x3, hk, hb⟩ := boxes_3 _ _ _ _ _ _ _ hW
 clear hW
 have Ha := lH (iK Ha.out hk)
 have Hb := lH (iK Hb.out hk)
 have X1 := lH x1
 have X2 := lH x2
 have X3 := lH x3
 have HB := lH hb
 clear hk hb x1 x2 x3
 (first | (have hcall := rsub_is2 (subErr_le Hc.out) Ha.out Hb.out hL; refine cM hcall ?_; clear hcall) | refine cM (rsub_is2 (subErr_le Hc.out) Ha.out Hb.out hL) ?_)
 rintro e w1 ⟨t1, rfl, ⟨v1, rfl, hd⟩, hb⟩
 have X1 := lH (xP hb X1.out)
 have X2 := lH (xP hb X2.out)
 have X3 := lH (xP hb X3.out)
 have HB := lH (bC HB.out hb)
 have Hd := lH hd
 clear hb hd
 obtain ⟨c10, c11, f10, f11⟩ := X1.out.c2
 obtain ⟨c20, c21, f20, f21⟩ := X2.out.c2
 obtain ⟨c30, c31, f30, f31⟩ := X3.out.c2
 go_wp2_with fail
 clear c10 c11 f10 f11 c20 c21 f20 f21 c30 c31 f30 f31
 (first | (have hcall := rimake_ai (neg := true) Hd.out.is; refine cM hcall ?_; clear hcall) | refine cM (rimake_ai (neg := true) Hd.out.is) ?_)
 rintro e w2 ⟨v2, rfl, hr, hb⟩
 obtain ⟨adr, nr, capr, rfl⟩ := hr.lit
 have X1 := lH (xP hb X1.out)
 have X2 := lH (xP hb X2.out)
 have X3 := lH (xP hb X3.out)
 have HB := lH (bC HB.out hb)
 have Hr := lH hr
 clear hb hr
 have e0 := iv_sub true Hc.out
 have Hs := lH (CL.mono (CL.cast e0 Hr.out) (Nat.le_max_left L M))
 clear e0 Hc
 obtain ⟨c10, c11, f10, f11⟩ := X1.out.c2
 obtain ⟨c20, c21, f20, f21⟩ := X2.out.c2
 obtain ⟨c30, c31, f30, f31⟩ := X3.out.c2
 go_wp2
 exact ret_cl rfl rfl rfl X3.out (nB_ _) (nS_ _ _ _) Hs.out HB.out (by omega)
theorem iadd_lt_true {L M : Nat} {ma mb : Nat} {p1 p2 : Option Addr} {n1 n2 q1 q2 : Nat} {w : World} (k : Int) (hk : cmpN ma mb = k) (hk0 : decide (k < 0) = true) (hc : ma < mb) (ha : Is ma L w (.slice p1 n1 q1)) (hb : Is mb M w (.slice p2 n2 q2)) (hL : L ≤ 4294967296) (hM : M ≤ 4294967296) :
  Calls Tryz.prog 131 #[.agg #[.bool true, .slice p1 n1 q1], .agg #[.bool false, .slice p2 n2 q2]] w (Ret w (CL (iv true ma + iv false mb) (max L M))) := by
 have Ha := lH ha
 have Hb := lH hb
 have Hc := lH hc
 have Hk := lH hk
 clear ha hb hc hk
 go_enter Tryz.func131, Tryz.ntmps131
 go_wp2_with fail
 obtain ⟨W, hW⟩ : ∃ W, W = (((w.alloc (.cells #[.bool true, .slice p1 n1 q1] 103)).alloc (.cells #[.bool false, .slice p2 n2 q2] 103)).alloc (.cells #[.bool false, .slice none 0 0] 103)) := ⟨_, rfl⟩
 rw [← hW]
 obtain ⟨x1, x2, x3, hk, hb⟩ := boxes_3 _ _ _ _ _ _ _ hW
 clear hW
 have Ha := lH (iK Ha.out hk)
 have Hb := lH (iK Hb.out hk)
 have X1 := lH x1
 have X2 := lH x2
 have X3 := lH x3
 have HB := lH hb
 clear hk hb x1 x2 x3
 (first | (have hcall := cmp_is k Ha.out Hb.out Hk.out; refine cM hcall ?_; clear hcall) | refine cM (cmp_is k Ha.out Hb.out Hk.out) ?_)
 rintro e w1 ⟨v1, rfl, rfl, hb⟩
 have Ha := lH (iK Ha.out (kC hb))
 have Hb := lH (iK Hb.out (kC hb))
 have X1 := lH (xP hb X1.out)
 have X2 := lH (xP hb X2.out)
 have X3 := lH (xP hb X3.out)
 have HB := lH (bC HB.out hb)
 clear hb
 obtain ⟨c10, c11, f10, f11⟩ := X1.out.c2
 obtain ⟨c20, c21, f20, f21⟩ := X2.out.c2
 obtain ⟨c30, c31, f30, f31⟩ := X3.out.c2
 go_wp2_with fail
 clear c10 c11 f10 f11 c20 c21 f20 f21 c30 c31 f30 f31
 obtain ⟨W2, hW⟩ : ∃ W2, W2 = (World.setCell (World.setCell (World.setCell (World.setCell w1 ⟨w.heap.size, 0, none⟩ (.bool false)) ⟨w.heap.size, 1, none⟩ (.slice p2 n2 q2)) ⟨w.heap.size + 1, 0, none⟩ (.bool true)) ⟨w.heap.size + 1, 1, none⟩ (.slice p1 n1 q1)) := ⟨_, rfl⟩
 rw [← hW]
 obtain ⟨x1, x2, hk, hf, hbb⟩ := swapped2 hW X1.out X2.out (by omega) (by first | exact nB_ _ | exact nS_ _ _ _ | exact Ha.out.noInt | exact Hb.out.noInt) (by first | exact nB_ _ | exact nS_ _ _ _ | exact Ha.out.noInt | exact Hb.out.noInt) (by first | exact nB_ _ | exact nS_ _ _ _ | exact Ha.out.noInt | exact Hb.out.noInt) (by first | exact nB_ _ | exact nS_ _ _ _ | exact Ha.out.noInt | exact Hb.out.noInt)
 have Ha := lH (iK Ha.out hk)
 have Hb := lH (iK Hb.out hk)
 have X1 := lH x1
 have X2 := lH x2
 have X3 := lH (hf _ _ _ X3.out (by omega) (by omega))
 have HB := lH (hbb _ HB.out (by omega) (by omega))
 clear hW hk hf hbb x1 x2
 (first | (have hcall := sub_is2 (subErr_le (Nat.le_of_lt Hc.out)) Hb.out Ha.out hM; refine cM hcall ?_; clear hcall) | refine cM (sub_is2 (subErr_le (Nat.le_of_lt Hc.out)) Hb.out Ha.out hM) ?_)
 rintro e w3 ⟨t3, rfl, ⟨v3, rfl, hd⟩, hb⟩
 have X1 := lH (xP hb X1.out)
 have X2 := lH (xP hb X2.out)
 have X3 := lH (xP hb X3.out)
 have HB := lH (bC HB.out hb)
 have Hd := lH hd
 clear hb hd
 obtain ⟨c10, c11, f10, f11⟩ := X1.out.c2
 obtain ⟨c20, c21, f20, f21⟩ := X2.out.c2
 obtain ⟨c30, c31, f30, f31⟩ := X3.out.c2
 go_wp2_with fail
 clear c10 c11 f10 f11 c20 c21 f20 f21 c30 c31 f30 f31
 (first | (have hcall := imake_ai (neg := false) Hd.out.is; refine cM hcall ?_; clear hcall) | refine cM (imake_ai (neg := false) Hd.out.is) ?_)
 rintro e w4 ⟨v4, rfl, hr, hb⟩
 obtain ⟨adr, nr, capr, rfl⟩ := hr.lit
 have X1 := lH (xP hb X1.out)
 have X2 := lH (xP hb X2.out)
 have X3 := lH (xP hb X3.out)
 have HB := lH (bC HB.out hb)
 have Hr := lH hr
 clear hb hr
 have e0 := iv_sub' true (Nat.le_of_lt Hc.out)
 have Hs := lH (CL.mono (CL.cast e0 Hr.out) (Nat.le_max_right L M))
 clear e0 Hc Hk
 obtain ⟨c10, c11, f10, f11⟩ := X1.out.c2
 obtain ⟨c20, c21, f20, f21⟩ := X2.out.c2
 obtain ⟨c30, c31, f30, f31⟩ := X3.out.c2
 go_wp2
 exact ret_cl rfl rfl rfl X3.out (nB_ _) (nS_ _ _ _) Hs.out HB.out (by omega)
theorem riadd_lt_true {L M : Nat} {ma mb : Nat} {sa sb : Value} {w : World} (hc : ma < mb) (ha : Is ma L w sa) (hb : Is mb M w sb) (hL : L ≤ 4294967296) (hM : M ≤ 4294967296) :
  Calls Tryz.prog 139 #[.agg #[.bool true, sa], .agg #[.bool false, sb]] w (Ret w (CL (iv true ma + iv false mb) (max L M))) := by
 have Ha := lH ha
 have Hb := lH hb
 have Hc := lH hc
 clear ha hb hc
 go_enter Tryz.func139, Tryz.ntmps139
 go_wp2_with fail
 obtain ⟨W, hW⟩ : ∃ W, W = (((w.alloc (.cells #[.bool true, sa] 103)).alloc (.cells #[.bool false, sb] 103)).alloc (.cells #[.bool false, .slice none 0 0] 103)) := ⟨_, rfl⟩
 rw [← hW]
 obtain ⟨x1, x2, x3, hk, hb⟩ := boxes_3 _ _ _ _ _ _ _ hW
 clear hW
 have Ha := lH (iK Ha.out hk)
 have Hb := lH (iK Hb.out hk)
 have X1 := lH x1
 have X2 := lH x2
 have X3 := lH x3
 have HB := lH hb
 clear hk hb x1 x2 x3
 (first | (have hcall := rsub_is2 (subErr_lt Hc.out) Ha.out Hb.out hL; refine cM hcall ?_; clear hcall) | refine cM (rsub_is2 (subErr_lt Hc.out) Ha.out Hb.out hL) ?_)
 rintro e w1 ⟨t1, rfl, ⟨v1, rfl, hy⟩, hb⟩
 have Ha := lH (iK Ha.out (kC hb))
 have Hb := lH (iK Hb.out (kC hb))
 have X1 := lH (xP hb X1.out)
 have X2 := lH (xP hb X2.out)
 have X3 := lH (xP hb X3.out)
 have HB := lH (bC HB.out hb)
 have Hy := lH hy
 clear hb hy
 obtain ⟨c10, c11, f10, f11⟩ := X1.out.c2
 obtain ⟨c20, c21, f20, f21⟩ := X2.out.c2
 obtain ⟨c30, c31, f30, f31⟩ := X3.out.c2
 go_wp2_with fail
 clear c10 c11 f10 f11 c20 c21 f20 f21 c30 c31 f30 f31
 (first | (have hcall := rsub_is2 (subErr_le (Nat.le_of_lt Hc.out)) Hb.out Ha.out hM; refine cM hcall ?_; clear hcall) | refine cM (rsub_is2 (subErr_le (Nat.le_of_lt Hc.out)) Hb.out Ha.out hM) ?_)
 rintro e w2 ⟨t2, rfl, ⟨v2, rfl, hd⟩, hb⟩
 have X1 := lH (xP hb X1.out)
 have X2 := lH (xP hb X2.out)
 have X3 := lH (xP hb X3.out)
 have HB := lH (bC HB.out hb)
 have Hd := lH hd
 clear hb hd
 obtain ⟨c10, c11, f10, f11⟩ := X1.out.c2
 obtain ⟨c20, c21, f20, f21⟩ := X2.out.c2
 obtain ⟨c30, c31, f30, f31⟩ := X3.out.c2
 go_wp2_with fail
 clear c10 c11 f10 f11 c20 c21 f20 f21 c30 c31 f30 f31
 (first | (have hcall := rimake_ai (neg := false) Hd.out.is; refine cM hcall ?_; clear hcall) | refine cM (rimake_ai (neg := false) Hd.out.is) ?_)
 rintro e w3 ⟨v3, rfl, hr, hb⟩
 obtain ⟨adr, nr, capr, rfl⟩ := hr.lit
 have X1 := lH (xP hb X1.out)
 have X2 := lH (xP hb X2.out)
 have X3 := lH (xP hb X3.out)
 have HB := lH (bC HB.out hb)
 have Hr := lH hr
 clear hb hr
 have e0 := iv_sub' true (Nat.le_of_lt Hc.out)
 have Hs := lH (CL.mono (CL.cast e0 Hr.out) (Nat.le_max_right L M))
 clear e0 Hc
 obtain ⟨c10, c11, f10, f11⟩ := X1.out.c2
 obtain ⟨c20, c21, f20, f21⟩ := X2.out.c2
 obtain ⟨c30, c31, f30, f31⟩ := X3.out.c2
 go_wp2
 exact ret_cl rfl rfl rfl X3.out (nB_ _) (nS_ _ _ _) Hs.out HB.out (by omega)
theorem iadd_ai {y z : Int} {L M : Nat} {u v : Value} {w : World} (h : AI y L w u) (h' : AI z M w v) (hL : L ≤ 4294967296) (hM : M ≤ 4294967296) :
  Calls Tryz.prog 131 #[u, v] w (Ret w (CL (y + z) (max L M + 1))) := by
 obtain ⟨na, sa, ma, rfl, ha, rfl⟩ := h
 obtain ⟨nb, sb, mb, rfl, hb, rfl⟩ := h'
 obtain ⟨p1, n1, q1, rfl⟩ := ha.lit
 obtain ⟨p2, n2, q2, rfl⟩ := hb.lit
 rcases Nat.lt_or_ge ma mb with hc | hc <;> cases na <;> cases nb
 ·
  exact iadd_bx_false ha hb hL hM
 ·
  exact (iadd_lt_false _ rfl (by rw [cmpN_lt hc]; rfl) hc ha hb hL hM).mono fun e w' h => h.mono_cl (Nat.le_succ _)
 ·
  exact (iadd_lt_true _ rfl (by rw [cmpN_lt hc]; rfl) hc ha hb hL hM).mono fun e w' h => h.mono_cl (Nat.le_succ _)
 ·
  exact iadd_bx_true ha hb hL hM
 ·
  exact iadd_bx_false ha hb hL hM
 ·
  exact (iadd_ge_false _ rfl (by rw [cmpN_ge hc]) hc ha hb hL hM).mono fun e w' h => h.mono_cl (Nat.le_succ _)
 ·
  exact (iadd_ge_true _ rfl (by rw [cmpN_ge hc]) hc ha hb hL hM).mono fun e w' h => h.mono_cl (Nat.le_succ _)
 ·
  exact iadd_bx_true ha hb hL hM
theorem riadd_ai {y z : Int} {L M : Nat} {u v : Value} {w : World} (h : AI y L w u) (h' : AI z M w v) (hL : L ≤ 4294967296) (hM : M ≤ 4294967296) :
  Calls Tryz.prog 139 #[u, v] w (Ret w (CL (y + z) (max L M + 1))) := by
 obtain ⟨na, sa, ma, rfl, ha, rfl⟩ := h
 obtain ⟨nb, sb, mb, rfl, hb, rfl⟩ := h'
 obtain ⟨p1, n1, q1, rfl⟩ := ha.lit
 obtain ⟨p2, n2, q2, rfl⟩ := hb.lit
 rcases Nat.lt_or_ge ma mb with hc | hc <;> cases na <;> cases nb
 ·
  exact riadd_bx_false ha hb hL hM
 ·
  exact (riadd_lt_false hc ha hb hL hM).mono fun e w' h => h.mono_cl (Nat.le_succ _)
 ·
  exact (riadd_lt_true hc ha hb hL hM).mono fun e w' h => h.mono_cl (Nat.le_succ _)
 ·
  exact riadd_bx_true ha hb hL hM
 ·
  exact riadd_bx_false ha hb hL hM
 ·
  exact (riadd_ge_false hc ha hb hL hM).mono fun e w' h => h.mono_cl (Nat.le_succ _)
 ·
  exact (riadd_ge_true hc ha hb hL hM).mono fun e w' h => h.mono_cl (Nat.le_succ _)
 ·
  exact riadd_bx_true ha hb hL hM
theorem AI.mk {n : Bool} {m L : Nat} {w : World} {s : Value} (h : Is m L w s) : AI (iv n m) L w (.agg #[.bool n, s]) := ⟨_, _, _, rfl, h, rfl⟩
theorem iv_sign_0 {n : Bool} {m : Nat} (h : m = 0) : (iv n m).sign = 0 := by subst h; cases n <;> rfl
theorem iv_sign_false {m : Nat} (h : 0 < m) : (iv false m).sign = 1 := by
 show (m : Int).sign = 1
 exact Int.sign_eq_one_of_pos (by omega)
theorem iv_sign_true {m : Nat} (h : 0 < m) : (iv true m).sign = -1 := by
 show (-(m : Int)).sign = -1
 exact Int.sign_eq_neg_one_of_neg (by omega)
theorem bits_zero {m L : Nat} {s : Value} {w : World} (hm : m = 0) (h : Is m L w s) (hL : L ≤ 4294967296) : Calls Tryz.prog 160 #[s] w (Ret w (Val (.int .i64 0))) := by
 obtain ⟨xs, h, hv, hl⟩ := h
 have := bits_any _ _ _ h (by omega)
 rw [hv, hm] at this
 exact this
def NotZ (_ : World) (v : Value) : Prop := ∃ U : Int, v = .int .i64 U ∧ (U == 0) = false
theorem bits_pos {m L : Nat} {s : Value} {w : World} (hm : 0 < m) (h : Is m L w s) (hL : L ≤ 4294967296) : Calls Tryz.prog 160 #[s] w (Ret w NotZ) := by
 obtain ⟨xs, h, hv, hl⟩ := h
 refine (bits_any _ _ _ h (by omega)).mono ?_
 rintro e w' ⟨v, rfl, rfl, hb⟩
 refine ⟨_, rfl, ⟨_, rfl, ?_⟩, hb⟩
 rw [hv]
 unfold blen
 rw [if_neg (by omega)]
 simp only [beq_eq_false_iff_ne, ne_eq]
 omega
def Lit0 (n : Bool) (b : Bool) (_ : World) (v : Value) : Prop := ∃ ad n1 cap, v = .agg #[.bool n, .slice ad n1 cap] ∧ ((n1 : Int) == 0) = b
theorem limbs_len0 {m n : Nat} (hn : (limbs m).length = n) (b : Bool) (h : (m == 0) = b) : ((n : Int) == 0) = b := by
 have := @sz_eq_zero m
 unfold sz at this
 subst h hn
 rw [Bool.eq_iff_iff]
 simp only [beq_iff_eq]
 omega
theorem rimake_0 {n : Bool} {m L : Nat} {s : Value} {w : World} (hm : m = 0) (h : Is m L w s) : Calls Tryz.prog 96 #[.bool n, s] w (Ret w (Lit0 false true)) := by
 refine (rimake_ai h).mono ?_
 rintro e w' ⟨v, rfl, ⟨⟨s1, rfl, h2⟩, -⟩, hb⟩
 obtain ⟨ad, n1, cap, rfl, hn, -⟩ := h2
 refine ⟨_, rfl, ⟨ad, n1, cap, ?_, limbs_len0 hn true (by rw [iv_abs, hm]; rfl)⟩, hb⟩
 rw [iv_lt, hm]; simp
theorem rimake_true {m L : Nat} {s : Value} {w : World} (hm : 0 < m) (h : Is m L w s) : Calls Tryz.prog 96 #[.bool true, s] w (Ret w (Lit0 true false)) := by
 refine (rimake_ai h).mono ?_
 rintro e w' ⟨v, rfl, ⟨⟨s1, rfl, h2⟩, -⟩, hb⟩
 obtain ⟨ad, n1, cap, rfl, hn, -⟩ := h2
 refine ⟨_, rfl, ⟨ad, n1, cap, ?_, limbs_len0 hn false (by rw [iv_abs]; simp; omega)⟩, hb⟩
 rw [iv_lt]; simp [hm]
theorem rimake_false {m L : Nat} {s : Value} {w : World} (hm : 0 < m) (h : Is m L w s) : Calls Tryz.prog 96 #[.bool false, s] w (Ret w (Lit0 false false)) := by
 refine (rimake_ai h).mono ?_
 rintro e w' ⟨v, rfl, ⟨⟨s1, rfl, h2⟩, -⟩, hb⟩
 obtain ⟨ad, n1, cap, rfl, hn, -⟩ := h2
 refine ⟨_, rfl, ⟨ad, n1, cap, ?_, limbs_len0 hn false (by rw [iv_abs]; simp; omega)⟩, hb⟩
 rw [iv_lt]; simp
theorem sub_sign_lt {y z : Int} (h : y.sign < z.sign) : (y - z).sign = -1 := by
 apply Int.sign_eq_neg_one_of_neg
 rcases Int.lt_trichotomy y 0 with h1 | h1 | h1 <;> rcases Int.lt_trichotomy z 0 with h2 | h2 | h2 <;>
  simp [Int.sign_eq_neg_one_of_neg, Int.sign_eq_one_of_pos, h1, h2] at h <;> omega
theorem sub_sign_gt {y z : Int} (h : z.sign < y.sign) : (y - z).sign = 1 := by
 apply Int.sign_eq_one_of_pos
 rcases Int.lt_trichotomy y 0 with h1 | h1 | h1 <;> rcases Int.lt_trichotomy z 0 with h2 | h2 | h2 <;>
  simp [Int.sign_eq_neg_one_of_neg, Int.sign_eq_one_of_pos, h1, h2] at h <;> omega
theorem cmpN_sign (a b : Nat) : cmpN a b = ((a : Int) - b).sign := by
 rcases Nat.lt_trichotomy a b with h | h | h
 ·
  rw [cmpN_lt h, Int.sign_eq_neg_one_of_neg (by omega)]
 ·
  rw [cmpN_eq h, h]; simp
 ·
  rw [cmpN_gt h, Int.sign_eq_one_of_pos (by omega)]
theorem sign_neg_iff {y : Int} : y.sign < 0 ↔ y < 0 := by
 rcases Int.lt_trichotomy y 0 with h1 | h1 | h1
 ·
  simp [Int.sign_eq_neg_one_of_neg h1, h1]
 ·
  simp [h1]
 ·
  simp [Int.sign_eq_one_of_pos h1]; omega
theorem cmp_neg {na nb : Bool} {ma mb : Nat} (h : (iv na ma).sign < 0) (hs : (iv na ma).sign = (iv nb mb).sign) : cmpN mb ma = (iv na ma - iv nb mb).sign := by
 have h2 : (iv nb mb).sign < 0 := hs ▸ h
 rw [sign_neg_iff] at h h2
 rw [cmpN_sign]
 congr 1
 cases na <;> cases nb <;> simp [iv] at h h2 ⊢ <;> omega
theorem cmp_pos {na nb : Bool} {ma mb : Nat} (h : ¬ (iv na ma).sign < 0) (hs : (iv na ma).sign = (iv nb mb).sign) : cmpN ma mb = (iv na ma - iv nb mb).sign := by
 have h2 : ¬ (iv nb mb).sign < 0 := hs ▸ h
 rw [sign_neg_iff] at h h2
 rw [cmpN_sign]
 congr 1
 cases na <;> cases nb <;> simp [iv] at h h2 ⊢ <;> omega
theorem isign_0 {L m : Nat} {sa : Value} {w : World} (n : Bool) (ha : Is m L w sa) (hL : L ≤ 4294967296) (hm : m = 0) :
  Calls Tryz.prog 118 #[.agg #[.bool n, sa]] w (Ret w (Val (.int .i64 0))) := by
 have Ha := lH ha
 have Hm := lH hm
 clear ha hm
 go_enter Tryz.func118, Tryz.ntmps118
 go_wp2_with fail
 obtain ⟨W, hW⟩ : ∃ W, W = (w.alloc (.cells #[.bool n, sa] 103)) := ⟨_, rfl⟩
 rw [← hW]
 obtain ⟨x1, hk, hb⟩ := boxes_1 _ _ _ hW
 clear hW
 have Ha := lH (iK Ha.out hk)
 have X1 := lH x1
 have HB := lH hb
 clear hk hb x1
 (first | (have hcall := bits_zero Hm.out Ha.out hL; refine cM hcall ?_; clear hcall) | refine cM (bits_zero Hm.out Ha.out hL) ?_)
 rintro e w1 ⟨v1, rfl, rfl, hb⟩
 have X1 := lH (xP hb X1.out)
 have HB := lH (bC HB.out hb)
 clear hb
 go_wp2
 all_goals (go_ret; exact ⟨_, rfl, rfl, HB.out⟩)
theorem isign_true {L m : Nat} {sa : Value} {w : World} (ha : Is m L w sa) (hL : L ≤ 4294967296) (hm : 0 < m) :
  Calls Tryz.prog 118 #[.agg #[.bool true, sa]] w (Ret w (Val (.int .i64 (-1)))) := by
 have Ha := lH ha
 have Hm := lH hm
 clear ha hm
 go_enter Tryz.func118, Tryz.ntmps118
 go_wp2_with fail
 obtain ⟨W, hW⟩ : ∃ W, W = (w.alloc (.cells #[.bool true, sa] 103)) := ⟨_, rfl⟩
 rw [← hW]
 obtain ⟨x1, hk, hb⟩ := boxes_1 _ _ _ hW
 clear hW
 have Ha := lH (iK Ha.out hk)
 have X1 := lH x1
 have HB := lH hb
 clear hk hb x1
 (first | (have hcall := bits_pos Hm.out Ha.out hL; refine cM hcall ?_; clear hcall) | refine cM (bits_pos Hm.out Ha.out hL) ?_)
 rintro e w1 ⟨v1, rfl, ⟨U, rfl, hU⟩, hb⟩
 have X1 := lH (xP hb X1.out)
 have HB := lH (bC HB.out hb)
 clear hb
 obtain ⟨c10, c11, f10, f11⟩ := X1.out.c2
 go_wp2_with fail
 go_wp2
 all_goals (go_ret; exact ⟨_, rfl, rfl, HB.out⟩)
theorem isign_false {L m : Nat} {sa : Value} {w : World} (ha : Is m L w sa) (hL : L ≤ 4294967296) (hm : 0 < m) :
  Calls Tryz.prog 118 #[.agg #[.bool false, sa]] w (Ret w (Val (.int .i64 1))) := by
 have Ha := lH ha
 have Hm := lH hm
 clear ha hm
 go_enter Tryz.func118, Tryz.ntmps118
 go_wp2_with fail
 obtain ⟨W, hW⟩ : ∃ W, W = (w.alloc (.cells #[.bool false, sa] 103)) := ⟨_, rfl⟩
 rw [← hW]
 obtain ⟨x1, hk, hb⟩ := boxes_1 _ _ _ hW
 clear hW
 have Ha := lH (iK Ha.out hk)
 have X1 := lH x1
 have HB := lH hb
 clear hk hb x1
 (first | (have hcall := bits_pos Hm.out Ha.out hL; refine cM hcall ?_; clear hcall) | refine cM (bits_pos Hm.out Ha.out hL) ?_)
 rintro e w1 ⟨v1, rfl, ⟨U, rfl, hU⟩, hb⟩
 have X1 := lH (xP hb X1.out)
 have HB := lH (bC HB.out hb)
 clear hb
 obtain ⟨c10, c11, f10, f11⟩ := X1.out.c2
 go_wp2_with fail
 go_wp2
 all_goals (go_ret; exact ⟨_, rfl, rfl, HB.out⟩)
theorem risign_0 {L m : Nat} {sa : Value} {w : World} (n : Bool) (ha : Is m L w sa) (hm : m = 0) :
  Calls Tryz.prog 98 #[.agg #[.bool n, sa]] w (Ret w (Val (.int .i64 0))) := by
 have Ha := lH ha
 have Hm := lH hm
 clear ha hm
 go_enter Tryz.func98, Tryz.ntmps98
 go_wp2_with fail
 obtain ⟨W, hW⟩ : ∃ W, W = (w.alloc (.cells #[.bool n, sa] 103)) := ⟨_, rfl⟩
 rw [← hW]
 obtain ⟨x1, hk, hb⟩ := boxes_1 _ _ _ hW
 clear hW
 have Ha := lH (iK Ha.out hk)
 have X1 := lH x1
 have HB := lH hb
 clear hk hb x1
 (first | (have hcall := rimake_0 Hm.out Ha.out; refine cM hcall ?_; clear hcall) | refine cM (rimake_0 Hm.out Ha.out) ?_)
 rintro e w1 ⟨v1, rfl, ⟨ad, n1, cap, rfl, hn1⟩, hb⟩
 have X1 := lH (xP hb X1.out)
 have HB := lH (bC HB.out hb)
 clear hb
 obtain ⟨c10, c11, f10, f11⟩ := X1.out.c2
 go_wp2_with fail
 go_wp2
 go_ret
 exact ⟨_, rfl, rfl, by first | exact HB.out | exact below_set2 HB.out (by omega) | exact below_set3 HB.out (by omega)⟩
theorem risign_true {L m : Nat} {sa : Value} {w : World} (ha : Is m L w sa) (hm : 0 < m) :
  Calls Tryz.prog 98 #[.agg #[.bool true, sa]] w (Ret w (Val (.int .i64 (-1)))) := by
 have Ha := lH ha
 have Hm := lH hm
 clear ha hm
 go_enter Tryz.func98, Tryz.ntmps98
 go_wp2_with fail
 obtain ⟨W, hW⟩ : ∃ W, W = (w.alloc (.cells #[.bool true, sa] 103)) := ⟨_, rfl⟩
 rw [← hW]
 obtain ⟨x1, hk, hb⟩ := boxes_1 _ _ _ hW
 clear hW
 have Ha := lH (iK Ha.out hk)
 have X1 := lH x1
 have HB := lH hb
 clear hk hb x1
 (first | (have hcall := rimake_true Hm.out Ha.out; refine cM hcall ?_; clear hcall) | refine cM (rimake_true Hm.out Ha.out) ?_)
 rintro e w1 ⟨v1, rfl, ⟨ad, n1, cap, rfl, hn1⟩, hb⟩
 have X1 := lH (xP hb X1.out)
 have HB := lH (bC HB.out hb)
 clear hb
 obtain ⟨c10, c11, f10, f11⟩ := X1.out.c2
 go_wp2_with fail
 go_wp2
 go_ret
 exact ⟨_, rfl, rfl, by first | exact HB.out | exact below_set2 HB.out (by omega) | exact below_set3 HB.out (by omega)⟩
theorem risign_false {L m : Nat} {sa : Value} {w : World} (ha : Is m L w sa) (hm : 0 < m) :
  Calls Tryz.prog 98 #[.agg #[.bool false, sa]] w (Ret w (Val (.int .i64 1))) := by
 have Ha := lH ha
 have Hm := lH hm
 clear ha hm
 go_enter Tryz.func98, Tryz.ntmps98
 go_wp2_with fail
 obtain ⟨W, hW⟩ : ∃ W, W = (w.alloc (.cells #[.bool false, sa] 103)) := ⟨_, rfl⟩
 rw [← hW]
 obtain ⟨x1, hk, hb⟩ := boxes_1 _ _ _ hW
 clear hW
 have Ha := lH (iK Ha.out hk)
 have X1 := lH x1
 have HB := lH hb
 clear hk hb x1
 (first | (have hcall := rimake_false Hm.out Ha.out; refine cM hcall ?_; clear hcall) | refine cM (rimake_false Hm.out Ha.out) ?_)
 rintro e w1 ⟨v1, rfl, ⟨ad, n1, cap, rfl, hn1⟩, hb⟩
 have X1 := lH (xP hb X1.out)
 have HB := lH (bC HB.out hb)
 clear hb
 obtain ⟨c10, c11, f10, f11⟩ := X1.out.c2
 go_wp2_with fail
 go_wp2
 go_ret
 exact ⟨_, rfl, rfl, by first | exact HB.out | exact below_set2 HB.out (by omega) | exact below_set3 HB.out (by omega)⟩
theorem isign_ai {z : Int} {L : Nat} {u : Value} {w : World} (k : Int) (h : AI z L w u) (hk : z.sign = k) (hL : L ≤ 4294967296) :
  Calls Tryz.prog 118 #[u] w (Ret w (Val (.int .i64 k))) := by
 obtain ⟨n, s, m, rfl, h, rfl⟩ := h
 subst hk
 rcases eP_ m with h0 | h0
 ·
  rw [iv_sign_0 h0]; exact isign_0 n h hL h0
 ·
  cases n
  ·
   rw [iv_sign_false h0]; exact isign_false h hL h0
  ·
   rw [iv_sign_true h0]; exact isign_true h hL h0
theorem risign_ai {z : Int} {L : Nat} {u : Value} {w : World} (k : Int) (h : AI z L w u) (hk : z.sign = k) :
  Calls Tryz.prog 98 #[u] w (Ret w (Val (.int .i64 k))) := by
 obtain ⟨n, s, m, rfl, h, rfl⟩ := h
 subst hk
 rcases eP_ m with h0 | h0
 ·
  rw [iv_sign_0 h0]; exact risign_0 n h h0
 ·
  cases n
  ·
   rw [iv_sign_false h0]; exact risign_false h h0
  ·
   rw [iv_sign_true h0]; exact risign_true h h0
theorem icmp_lt {L M : Nat} {ma mb : Nat} {na nb : Bool} {sa sb : Value} {w : World} (s t : Int) (hs : (iv na ma).sign = s) (ht : (iv nb mb).sign = t) (h1 : decide (s < t) = true) (ha : Is ma L w sa) (hb : Is mb M w sb) (hL : L ≤ 4294967296) (hM : M ≤ 4294967296) :
  Calls Tryz.prog 71 #[.agg #[.bool na, sa], .agg #[.bool nb, sb]] w (Ret w (Val (.int .i64 (-1)))) := by
 have Ha := lH ha
 have Hb := lH hb
 have Hs := lH hs
 have Ht := lH ht
 clear ha hb hs ht
 go_enter Tryz.func71, Tryz.ntmps71
 go_wp2_with fail
 obtain ⟨W, hW⟩ : ∃ W, W = ((w.alloc (.cells #[.bool na, sa] 103)).alloc (.cells #[.bool nb, sb] 103)) := ⟨_, rfl⟩
 rw [← hW]
 obtain ⟨x1, x2, hk, hb⟩ := boxes_2 _ _ _ _ _ hW
 clear hW
 have Ha := lH (iK Ha.out hk)
 have Hb := lH (iK Hb.out hk)
 have X1 := lH x1
 have X2 := lH x2
 have HB := lH hb
 clear hk hb x1 x2
 have Ha := lH (iK Ha.out (Keep.drew W))
 have Hb := lH (iK Hb.out (Keep.drew W))
 have X1 := lH (Box.drew X1.out)
 have X2 := lH (Box.drew X2.out)
 have HB := lH (Below.drew HB.out)
 have tok0 : True := trivial
 go_region_held3 (fun w' => w'.cell? ⟨w.heap.size, 0, none⟩ = some (.bool na) ∧ w'.cell? ⟨w.heap.size, 1, none⟩ = some (sa) ∧ w'.cell? ⟨w.heap.size + 1, 0, none⟩ = some (.bool nb) ∧ w'.cell? ⟨w.heap.size + 1, 1, none⟩ = some (sb))
  (first | exact ⟨X1.out.cell 0 rfl, X1.out.cell 1 rfl, X2.out.cell 0 rfl, X2.out.cell 1 rfl⟩ | go_keep)
  (first | (have _t := tok0; go_at_call 118; (first | (have hcall := isign_ai s (AI.mk Ha.out) Hs.out hL; refine cM hcall ?_; clear hcall) | refine cM (isign_ai s (AI.mk Ha.out) Hs.out hL) ?_); rintro e w1 ⟨v1, rfl, rfl, hb⟩; have Hb := lH (iK Hb.out (kC hb)); have X1 := lH (xP hb X1.out); have X2 := lH (xP hb X2.out); have HB := lH (bC HB.out hb); clear hb tok0 _t; have tok1 : True := trivial)
         | (have _t := tok1; go_at_call 118; (first | (have hcall := isign_ai t (AI.mk Hb.out) Ht.out hM; refine cM hcall ?_; clear hcall) | refine cM (isign_ai t (AI.mk Hb.out) Ht.out hM) ?_); rintro e w2 ⟨v2, rfl, rfl, hb⟩; have X1 := lH (xP hb X1.out); have X2 := lH (xP hb X2.out); have HB := lH (bC HB.out hb); clear hb tok1 _t))
 go_wp2
 all_goals (go_ret; exact ⟨_, rfl, rfl, HB.out⟩)
theorem icmp_gt {L M : Nat} {ma mb : Nat} {na nb : Bool} {sa sb : Value} {w : World} (s t : Int) (hs : (iv na ma).sign = s) (ht : (iv nb mb).sign = t) (h1 : decide (s < t) = false) (h2 : decide (t < s) = true) (ha : Is ma L w sa) (hb : Is mb M w sb) (hL : L ≤ 4294967296) (hM : M ≤ 4294967296) :
  Calls Tryz.prog 71 #[.agg #[.bool na, sa], .agg #[.bool nb, sb]] w (Ret w (Val (.int .i64 1))) := by
 have Ha := lH ha
 have Hb := lH hb
 have Hs := lH hs
 have Ht := lH ht
 clear ha hb hs ht
 go_enter Tryz.func71, Tryz.ntmps71
 go_wp2_with fail
 obtain ⟨W, hW⟩ : ∃ W, W = ((w.alloc (.cells #[.bool na, sa] 103)).alloc (.cells #[.bool nb, sb] 103)) := ⟨_, rfl⟩
 rw [← hW]
 obtain ⟨x1, x2, hk, hb⟩ := boxes_2 _ _ _ _ _ hW
 clear hW
 have Ha := lH (iK Ha.out hk)
 have Hb := lH (iK Hb.out hk)
 have X1 := lH x1
 have X2 := lH x2
 have HB := lH hb
 clear hk hb x1 x2
 have Ha := lH (iK Ha.out (Keep.drew W))
 have Hb := lH (iK Hb.out (Keep.drew W))
 have X1 := lH (Box.drew X1.out)
 have X2 := lH (Box.drew X2.out)
 have HB := lH (Below.drew HB.out)
 have tok0 : True := trivial
 go_region_held3 (fun w' => w'.cell? ⟨w.heap.size, 0, none⟩ = some (.bool na) ∧ w'.cell? ⟨w.heap.size, 1, none⟩ = some (sa) ∧ w'.cell? ⟨w.heap.size + 1, 0, none⟩ = some (.bool nb) ∧ w'.cell? ⟨w.heap.size + 1, 1, none⟩ = some (sb))
  (first | exact ⟨X1.out.cell 0 rfl, X1.out.cell 1 rfl, X2.out.cell 0 rfl, X2.out.cell 1 rfl⟩ | go_keep)
  (first | (have _t := tok0; go_at_call 118; (first | (have hcall := isign_ai s (AI.mk Ha.out) Hs.out hL; refine cM hcall ?_; clear hcall) | refine cM (isign_ai s (AI.mk Ha.out) Hs.out hL) ?_); rintro e w1 ⟨v1, rfl, rfl, hb⟩; have Hb := lH (iK Hb.out (kC hb)); have X1 := lH (xP hb X1.out); have X2 := lH (xP hb X2.out); have HB := lH (bC HB.out hb); clear hb tok0 _t; have tok1 : True := trivial)
         | (have _t := tok1; go_at_call 118; (first | (have hcall := isign_ai t (AI.mk Hb.out) Ht.out hM; refine cM hcall ?_; clear hcall) | refine cM (isign_ai t (AI.mk Hb.out) Ht.out hM) ?_); rintro e w2 ⟨v2, rfl, rfl, hb⟩; have X1 := lH (xP hb X1.out); have X2 := lH (xP hb X2.out); have HB := lH (bC HB.out hb); clear hb tok1 _t))
 go_wp2
 all_goals (go_ret; exact ⟨_, rfl, rfl, HB.out⟩)
theorem icmp_neg {L M : Nat} {ma mb : Nat} {na nb : Bool} {sa sb : Value} {w : World} (s t : Int) (hs : (iv na ma).sign = s) (ht : (iv nb mb).sign = t) (k : Int) (h1 : decide (s < t) = false) (h2 : decide (t < s) = false) (h3 : decide (s < 0) = true) (hk : cmpN mb ma = k) (ha : Is ma L w sa) (hb : Is mb M w sb) (hL : L ≤ 4294967296) (hM : M ≤ 4294967296) :
  Calls Tryz.prog 71 #[.agg #[.bool na, sa], .agg #[.bool nb, sb]] w (Ret w (Val (.int .i64 k))) := by
 have Ha := lH ha
 have Hb := lH hb
 have Hs := lH hs
 have Ht := lH ht
 have Hk := lH hk
 clear ha hb hs ht hk
 go_enter Tryz.func71, Tryz.ntmps71
 go_wp2_with fail
 obtain ⟨W, hW⟩ : ∃ W, W = ((w.alloc (.cells #[.bool na, sa] 103)).alloc (.cells #[.bool nb, sb] 103)) := ⟨_, rfl⟩
 rw [← hW]
 obtain ⟨x1, x2, hk, hb⟩ := boxes_2 _ _ _ _ _ hW
 clear hW
 have Ha := lH (iK Ha.out hk)
 have Hb := lH (iK Hb.out hk)
 have X1 := lH x1
 have X2 := lH x2
 have HB := lH hb
 clear hk hb x1 x2
 have Ha := lH (iK Ha.out (Keep.drew W))
 have Hb := lH (iK Hb.out (Keep.drew W))
 have X1 := lH (Box.drew X1.out)
 have X2 := lH (Box.drew X2.out)
 have HB := lH (Below.drew HB.out)
 have tok0 : True := trivial
 go_region_held3 (fun w' => w'.cell? ⟨w.heap.size, 0, none⟩ = some (.bool na) ∧ w'.cell? ⟨w.heap.size, 1, none⟩ = some (sa) ∧ w'.cell? ⟨w.heap.size + 1, 0, none⟩ = some (.bool nb) ∧ w'.cell? ⟨w.heap.size + 1, 1, none⟩ = some (sb))
  (first | exact ⟨X1.out.cell 0 rfl, X1.out.cell 1 rfl, X2.out.cell 0 rfl, X2.out.cell 1 rfl⟩ | go_keep)
  (first | (have _t := tok0; go_at_call 118; (first | (have hcall := isign_ai s (AI.mk Ha.out) Hs.out hL; refine cM hcall ?_; clear hcall) | refine cM (isign_ai s (AI.mk Ha.out) Hs.out hL) ?_); rintro e w1 ⟨v1, rfl, rfl, hb⟩; have Ha := lH (iK Ha.out (kC hb)); have Hb := lH (iK Hb.out (kC hb)); have X1 := lH (xP hb X1.out); have X2 := lH (xP hb X2.out); have HB := lH (bC HB.out hb); clear hb tok0 _t; have tok1 : True := trivial)
         | (have _t := tok1; go_at_call 118; (first | (have hcall := isign_ai t (AI.mk Hb.out) Ht.out hM; refine cM hcall ?_; clear hcall) | refine cM (isign_ai t (AI.mk Hb.out) Ht.out hM) ?_); rintro e w2 ⟨v2, rfl, rfl, hb⟩; have Ha := lH (iK Ha.out (kC hb)); have Hb := lH (iK Hb.out (kC hb)); have X1 := lH (xP hb X1.out); have X2 := lH (xP hb X2.out); have HB := lH (bC HB.out hb); clear hb tok1 _t))
 obtain ⟨c10, c11, f10, f11⟩ := X1.out.c2
 obtain ⟨c20, c21, f20, f21⟩ := X2.out.c2
 go_wp2_with fail
 clear c10 c11 f10 f11 c20 c21 f20 f21
 (first | (have hcall := cmp_is k Hb.out Ha.out Hk.out; refine cM hcall ?_; clear hcall) | refine cM (cmp_is k Hb.out Ha.out Hk.out) ?_)
 rintro e w3 ⟨v3, rfl, rfl, hb⟩
 have X1 := lH (xP hb X1.out)
 have X2 := lH (xP hb X2.out)
 have HB := lH (bC HB.out hb)
 clear hb
 go_wp2
 all_goals (go_ret; exact ⟨_, rfl, rfl, HB.out⟩)
theorem icmp_pos {L M : Nat} {ma mb : Nat} {na nb : Bool} {sa sb : Value} {w : World} (s t : Int) (hs : (iv na ma).sign = s) (ht : (iv nb mb).sign = t) (k : Int) (h1 : decide (s < t) = false) (h2 : decide (t < s) = false) (h3 : decide (s < 0) = false) (hk : cmpN ma mb = k) (ha : Is ma L w sa) (hb : Is mb M w sb) (hL : L ≤ 4294967296) (hM : M ≤ 4294967296) :
  Calls Tryz.prog 71 #[.agg #[.bool na, sa], .agg #[.bool nb, sb]] w (Ret w (Val (.int .i64 k))) := by
 have Ha := lH ha
 have Hb := lH hb
 have Hs := lH hs
 have Ht := lH ht
 have Hk := lH hk
 clear ha hb hs ht hk
 go_enter Tryz.func71, Tryz.ntmps71
 go_wp2_with fail
 obtain ⟨W, hW⟩ : ∃ W, W = ((w.alloc (.cells #[.bool na, sa] 103)).alloc (.cells #[.bool nb, sb] 103)) := ⟨_, rfl⟩
 rw [← hW]
 obtain ⟨x1, x2, hk, hb⟩ := boxes_2 _ _ _ _ _ hW
 clear hW
 have Ha := lH (iK Ha.out hk)
 have Hb := lH (iK Hb.out hk)
 have X1 := lH x1
 have X2 := lH x2
 have HB := lH hb
 clear hk hb x1 x2
 have Ha := lH (iK Ha.out (Keep.drew W))
 have Hb := lH (iK Hb.out (Keep.drew W))
 have X1 := lH (Box.drew X1.out)
 have X2 := lH (Box.drew X2.out)
 have HB := lH (Below.drew HB.out)
 have tok0 : True := trivial
 go_region_held3 (fun w' => w'.cell? ⟨w.heap.size, 0, none⟩ = some (.bool na) ∧ w'.cell? ⟨w.heap.size, 1, none⟩ = some (sa) ∧ w'.cell? ⟨w.heap.size + 1, 0, none⟩ = some (.bool nb) ∧ w'.cell? ⟨w.heap.size + 1, 1, none⟩ = some (sb))
  (first | exact ⟨X1.out.cell 0 rfl, X1.out.cell 1 rfl, X2.out.cell 0 rfl, X2.out.cell 1 rfl⟩ | go_keep)
  (first | (have _t := tok0; go_at_call 118; (first | (have hcall := isign_ai s (AI.mk Ha.out) Hs.out hL; refine cM hcall ?_; clear hcall) | refine cM (isign_ai s (AI.mk Ha.out) Hs.out hL) ?_); rintro e w1 ⟨v1, rfl, rfl, hb⟩; have Ha := lH (iK Ha.out (kC hb)); have Hb := lH (iK Hb.out (kC hb)); have X1 := lH (xP hb X1.out); have X2 := lH (xP hb X2.out); have HB := lH (bC HB.out hb); clear hb tok0 _t; have tok1 : True := trivial)
         | (have _t := tok1; go_at_call 118; (first | (have hcall := isign_ai t (AI.mk Hb.out) Ht.out hM; refine cM hcall ?_; clear hcall) | refine cM (isign_ai t (AI.mk Hb.out) Ht.out hM) ?_); rintro e w2 ⟨v2, rfl, rfl, hb⟩; have Ha := lH (iK Ha.out (kC hb)); have Hb := lH (iK Hb.out (kC hb)); have X1 := lH (xP hb X1.out); have X2 := lH (xP hb X2.out); have HB := lH (bC HB.out hb); clear hb tok1 _t))
 obtain ⟨c10, c11, f10, f11⟩ := X1.out.c2
 obtain ⟨c20, c21, f20, f21⟩ := X2.out.c2
 go_wp2_with fail
 clear c10 c11 f10 f11 c20 c21 f20 f21
 (first | (have hcall := cmp_is k Ha.out Hb.out Hk.out; refine cM hcall ?_; clear hcall) | refine cM (cmp_is k Ha.out Hb.out Hk.out) ?_)
 rintro e w3 ⟨v3, rfl, rfl, hb⟩
 have X1 := lH (xP hb X1.out)
 have X2 := lH (xP hb X2.out)
 have HB := lH (bC HB.out hb)
 clear hb
 go_wp2
 all_goals (go_ret; exact ⟨_, rfl, rfl, HB.out⟩)
theorem icmp_ai {y z : Int} {L M : Nat} {u v : Value} {w : World} (k : Int) (h : AI y L w u) (h' : AI z M w v) (hk : (y - z).sign = k) (hL : L ≤ 4294967296) (hM : M ≤ 4294967296) :
  Calls Tryz.prog 71 #[u, v] w (Ret w (Val (.int .i64 k))) := by
 obtain ⟨na, sa, ma, rfl, h, rfl⟩ := h
 obtain ⟨nb, sb, mb, rfl, h', rfl⟩ := h'
 subst hk
 rcases Int.lt_trichotomy (iv na ma).sign (iv nb mb).sign with hs | hs | hs
 ·
  rw [sub_sign_lt hs]
  exact icmp_lt _ _ rfl rfl (by simpa using hs) h h' hL hM
 ·
  by_cases hn : (iv na ma).sign < 0
  ·
   exact icmp_neg _ _ rfl rfl _ (by simp; omega) (by simp; omega) (by simpa using hn) (cmp_neg hn hs) h h' hL hM
  ·
   exact icmp_pos _ _ rfl rfl _ (by simp; omega) (by simp; omega) (by simpa using hn) (cmp_pos (by omega) hs) h h' hL hM
 ·
  rw [sub_sign_gt hs]
  exact icmp_gt _ _ rfl rfl (by simp; omega) (by simpa using hs) h h' hL hM
end Go.Proofs.YtikglhmabidjoaaGreat
