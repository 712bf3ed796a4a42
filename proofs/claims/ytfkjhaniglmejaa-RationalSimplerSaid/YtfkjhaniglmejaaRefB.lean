/- Walks over the reference of package natural, third part: Sub, Mul. -/
import Derived.Test.YtfkjhaniglmejaaRefA
namespace Go.Proofs.Ytfkjhaniglmejaa
open Go.RowKit Nt

/-- The reference's difference behind k rounds. -/
def rsubInv (k c : Nat) (os xs ys : List Nat) : Prop := os.length = k ∧ lims os ∧ c ≤ 1 ∧ val os + val (ys.take k) = val (xs.take k) + 4294967296 ^ k * c
theorem rsubInv_zero (xs ys : List Nat) : rsubInv 0 0 [] xs ys := ⟨rfl, lims_nil, by decide, by simp [val]⟩
theorem rsubInv_step {k c o d : Nat} {os xs ys : List Nat} (h : rsubInv k c os xs ys) (hx : lims xs) (hy : lims ys) (hd : d + ys.getD k 0 + c = xs.getD k 0 + 4294967296 * o) (hd1 : d < 4294967296) :
    rsubInv (k + 1) o (os ++ [d]) xs ys := by
  obtain ⟨h1, h2, h3, h4⟩ := h
  have b1 := lims_getD hx k
  have b2 := lims_getD hy k
  refine ⟨by simp [h1], lims_append h2 (lims_cons hd1 lims_nil), by omega, ?_⟩
  rw [val_snoc, h1, val_take_step xs, val_take_step ys, Nat.pow_succ]
  have e : 4294967296 ^ k * (d + ys.getD k 0 + c) = 4294967296 ^ k * (xs.getD k 0 + 4294967296 * o) := by rw [hd]
  rw [Nat.mul_add, Nat.mul_add, Nat.mul_add, ← Nat.mul_assoc] at e
  omega
theorem rsubInv_end {n c : Nat} {os xs ys : List Nat} (h : rsubInv n c os xs ys) (hx : lims xs) (hn : xs.length = n) (hle : val ys ≤ val xs) : lims os ∧ os.length = n ∧ val os = val xs - val ys := by
  obtain ⟨h1, h2, h3, h4⟩ := h
  refine ⟨h2, h1, ?_⟩
  have hxl := val_lt hx
  rw [hn] at hxl
  have hyt : val (ys.take n) = val ys := by
    rcases Nat.lt_or_ge n ys.length with hlt | hge
    · have e := val_take_drop ys n (by omega)
      have : val (ys.drop n) = 0 := by
        rcases Nat.eq_zero_or_pos (val (ys.drop n)) with h0 | h0
        · exact h0
        · have : 4294967296 ^ n * 1 ≤ 4294967296 ^ n * val (ys.drop n) := Nat.mul_le_mul_left _ h0
          omega
      rw [this] at e; omega
    · exact val_take_ge hge
  rw [hyt, val_take_ge (xs := xs) (by omega)] at h4
  have := val_lt h2
  rw [h1] at this
  have hc : c = 0 := by
    rcases Nat.eq_zero_or_pos c with h | h
    · exact h
    · have : c = 1 := by omega
      subst this; omega
  subst hc; omega

def NumEF (B n : Nat) (err : Int) (w : World) (v : Value) : Prop := ∃ a, v = .tuple #[a, .int .i64 err] ∧ Sl w a (limbs n) ∧ FreshS B a

set_option maxHeartbeats 400000 in
theorem rsub_noF (v v' : Value) (xs ys : List Nat) (w : World) (h : Sl w v xs) (h' : Sl w v' ys) (hlt : val xs < val ys) :
    Calls Try.prog 93 #[v, v'] w (Ret w (NumEF w.heap.size 0 2)) := by
  go_enter Try.func93, Try.ntmps93
  go_wp2_with fail
  refine (rcmp_any _ _ _ _ _ h h').mono ?_
  rintro e wc ⟨v3, rfl, h3, hbc⟩
  unfold Val at h3
  subst h3
  rw [cmpN_lt hlt]
  clear hlt
  go_wp2
  go_ret2
  exact ⟨_, rfl, ⟨_, rfl, by rw [limbs_zero]; exact Sl.nil _, FreshS.nil _⟩, hbc⟩

set_option maxHeartbeats 1000000 in
theorem rsub_yesF (v v' : Value) (xs ys : List Nat) (w : World) (h : Sl w v xs) (h' : Sl w v' ys) (hxl : xs.length ≤ 4294967296) (hle : val ys ≤ val xs) :
    Calls Try.prog 93 #[v, v'] w (Ret w (NumEF w.heap.size (val xs - val ys) 0)) := by
  have hcd := cmp_not_neg hle
  have Hle := Lib.hid hle; clear hle
  have Hx := Lib.hid h.lims
  have Hy := Lib.hid h'.lims
  have H := Lib.hid h
  have H' := Lib.hid h'
  obtain ⟨ad, n, cap, rfl, hn, -⟩ := h
  have hb : n ≤ 4294967296 := by omega
  have Hn := Lib.hid hn
  clear hn hxl h'
  go_enter Try.func93, Try.ntmps93
  go_wp2_with fail
  refine (rcmp_any _ _ _ _ _ H.out H'.out).mono ?_
  rintro e wc ⟨v3, rfl, h3, hbc⟩
  unfold Val at h3
  subst h3
  generalize cmpN (val xs) (val ys) = cm at *
  have Hbc := Lib.hid hbc; clear hbc
  have Hc := Lib.hid (H.out.below Hbc.out)
  have Hc' := Lib.hid (H'.out.below Hbc.out)
  go_wp2_with fail
  go_loopw [6, 7, 8, 9, 10] (fun o bo i _ _ wr => ∃ (k c : Nat) (os : List Nat), k ≤ n ∧ i = .int .i64 (k : Int) ∧ bo = .int .u64 (c : Int) ∧ Hid (OwnU wr wc.heap.size 64 o os) ∧ Hid (rsubInv k c os xs ys) ∧ Hid (Below wc.heap.size wc wr)) (fun _ _ i _ _ _ => n - (intOf i).toNat)
  case atStart => exact ⟨0, 0, [], by omega, rfl, rfl, Lib.hid (OwnU.nil _ _ _), Lib.hid (rsubInv_zero _ _), Lib.hid (Below.refl _ _)⟩
  case round =>
    obtain ⟨k, c, os, hk, rfl, rfl, HO, Hs, Hbl⟩ := hrel
    have hc1 := Hs.out.2.2.1
    have Hosl : Hid (os.length ≤ 1099511627776) := Lib.hid (by have := Hs.out.1; omega)
    by_cases hkn : k < n
    · obtain ⟨x, hx⟩ : ∃ x, x = xs.getD k 0 := ⟨_, rfl⟩
      obtain ⟨y, hy⟩ : ∃ y, y = ys.getD k 0 := ⟨_, rfl⟩
      have bx := lims_getD Hx.out k
      have by' := lims_getD Hy.out k
      have L1 := Lib.hid (limb_any _ xs k _ (Hc.out.below Hbl.out) (by omega))
      have L2 := Lib.hid (limb_any _ ys k _ (Hc'.out.below Hbl.out) (by omega))
      rw [← hx] at L1 bx
      rw [← hy] at L2 by'
      have Hx' := Lib.hid hx; clear hx
      have Hy' := Lib.hid hy; clear hy
      by_cases hlt : x < y + c
      · have Hlt := Lib.hid hlt
        go_wp2_with fail
        refine L1.out.mono ?_
        rintro e w' ⟨rfl, rfl⟩
        go_wp2_with fail
        refine L2.out.mono ?_
        rintro e w' ⟨rfl, rfl⟩
        go_wp2_with (at_builtin; refine wpList_push_u32 _ rfl _ _ _ _ rfl 64 Try.underlying22 Try.underlying22 Try.infoU32 wc.heap.size _ os rfl (HO.out.below ((Below.refl _ _).alloc (Nat.le_refl _) _) (Nat.le_refl _)) _ 1 ((x : Int) + 4294967296 - ((y : Int) + (c : Int))) rfl (by simp) (by omega) Hosl.out (by have := Hbl.out.size; simp; omega) ?_; intro v3 w3 h3 hb3)
        go_wp2
        go_roundw
        case rel =>
          exact ⟨k + 1, 1, _, by omega, by go_num, rfl, Lib.hid h3, Lib.hid (rsubInv_step Hs.out Hx.out Hy.out (by rw [← Hx'.out, ← Hy'.out]; omega) (by omega)), Lib.hid ((Hbl.out.alloc Hbl.out.size _).trans hb3)⟩
        case measure => simp [intOf] <;> omega
      · have hge : y + c ≤ x := by omega
        go_wp2_with fail
        refine L1.out.mono ?_
        rintro e w' ⟨rfl, rfl⟩
        go_wp2_with fail
        refine L2.out.mono ?_
        rintro e w' ⟨rfl, rfl⟩
        go_wp2_with (at_builtin; refine wpList_push_u32 _ rfl _ _ _ _ rfl 64 Try.underlying22 Try.underlying22 Try.infoU32 wc.heap.size _ os rfl (HO.out.below ((Below.refl _ _).alloc (Nat.le_refl _) _) (Nat.le_refl _)) _ 1 ((x : Int) - ((y : Int) + (c : Int))) rfl (by simp) (by omega) Hosl.out (by have := Hbl.out.size; simp; omega) ?_; intro v3 w3 h3 hb3)
        go_wp2
        go_roundw
        case rel =>
          exact ⟨k + 1, 0, _, by omega, by go_num, rfl, Lib.hid h3, Lib.hid (rsubInv_step Hs.out Hx.out Hy.out (by rw [← Hx'.out, ← Hy'.out]; omega) (by omega)), Lib.hid ((Hbl.out.alloc Hbl.out.size _).trans hb3)⟩
        case measure => simp [intOf] <;> omega
    · obtain rfl : k = n := by omega
      have HE := Lib.hid (rsubInv_end Hs.out Hx.out Hn.out Hle.out)
      go_wp2_with fail
      refine (rmake_anyF _ _ _ (HO.out.sl HE.out.1 Hosl.out)).mono ?_
      rintro e w4 ⟨v4, rfl, ⟨h4, hf4⟩, hb4⟩
      rw [HE.out.2.2] at h4
      have hf5 := hf4.mono (Nat.le_trans Hbc.out.size Hbl.out.size)
      clear hf4
      have HB2 := Hbc.out.trans ((Hbl.out.trans (hb4.mono Hbl.out.size)).mono Hbc.out.size)
      clear hb4
      go_wp2
      go_ret2
      exact ⟨_, rfl, ⟨_, rfl, h4, hf5⟩, HB2⟩

theorem rsub_anyF (v v' : Value) (xs ys : List Nat) (w : World) (h : Sl w v xs) (h' : Sl w v' ys) (hx : xs.length ≤ 4294967296) :
    Calls Try.prog 93 #[v, v'] w (Ret w (NumEF w.heap.size (val xs - val ys) (subErr (val xs) (val ys)))) := by
  rcases Nat.lt_or_ge (val xs) (val ys) with hlt | hle
  · rw [subErr_lt hlt, show val xs - val ys = 0 by omega]
    exact rsub_noF v v' xs ys w h h' hlt
  · rw [subErr_le hle]
    exact rsub_yesF v v' xs ys w h h' hx hle

theorem rsub_any (v v' : Value) (xs ys : List Nat) (w : World) (h : Sl w v xs) (h' : Sl w v' ys) (hx : xs.length ≤ 4294967296) :
    Calls Try.prog 93 #[v, v'] w (Ret w (NumE (val xs - val ys) (subErr (val xs) (val ys)))) :=
  (rsub_anyF v v' xs ys w h h' hx).mono fun _ _ ⟨u, h1, ⟨a, h2, h3, _⟩, h4⟩ => ⟨u, h1, ⟨a, h2, h3⟩, h4⟩

/-- limb, in a region whose order is open. -/
theorem limb_q (v : Value) (xs : List Nat) (i : Nat) (w : World) (h : Sl w v xs) (hi : i ≤ 1099511627780) (n : Nat) :
    Calls Try.prog 70 #[v, .int .i64 (i : Int)] (w.drewN n) fun e w' => e = .returned (.int .u32 ((xs.getD i 0 : Nat) : Int)) ∧ w' = w.drewN n :=
  (limb_any v xs i (w.drewN n) (h.below (below_drewN (Below.refl _ _) n)) hi).mono fun _ _ h => ⟨h.1, h.2.symm⟩

set_option maxRecDepth 100000 in
set_option maxHeartbeats 1000000 in
theorem rmul_any (v v' : Value) (xs ys : List Nat) (w : World) (h : Sl w v xs) (h' : Sl w v' ys) (hxl : xs.length ≤ 4294967296) (hyl : ys.length ≤ 4294967296) :
    Calls Try.prog 60 #[v, v'] w (Ret w (Num (val xs * val ys))) := by
  have Hx := Lib.hid h.lims
  have Hy := Lib.hid h'.lims
  have H' := Lib.hid h'
  obtain ⟨ad, n, cap, rfl, hn, -, -, -, hs⟩ := h
  obtain ⟨ad', m, cap', rfl, hm, -⟩ := h'
  have hb : n ≤ 4294967296 := by omega
  have hb' : m ≤ 4294967296 := by omega
  have Hn := Lib.hid hn
  have Hm := Lib.hid hm
  clear hn hm hxl hyl
  go_enter Try.func60, Try.ntmps60
  go_wp2_with (at_make; refine wpList_make_u32 _ rfl _ _ _ rfl 64 Try.underlying22 Try.infoU32 _ (n + (m + 1)) rfl rfl (by omega) (by omega) ?_; intro w0 hA0 hb0 _)
  go_wp2
  go_loopw [6, 7, 8] (fun i _ _ wr => ∃ k os, k ≤ n ∧ i = .int .i64 ((k : Nat) : Int) ∧ Arr wr w.heap.size os ∧ Hid (mulOut n (m + 1) k os xs ys) ∧ Hid (Below w.heap.size w wr)) (fun i _ _ _ => n - (intOf i).toNat)
  case atStart => exact ⟨0, _, Nat.zero_le _, rfl, hA0, Lib.hid (mulOut_zero _ _ _ _), Lib.hid hb0⟩
  case round =>
    obtain ⟨i, os, hi, rfl, hA, Hs, Hbl⟩ := hrel
    by_cases hin : i < n
    · obtain ⟨b1, off, rfl, hbw, hc⟩ := hs (by omega)
      have C1 := Lib.hid (hc i hin)
      have bx := lims_getD Hx.out i
      obtain ⟨x, hx⟩ : ∃ x, x = xs.getD i 0 := ⟨_, rfl⟩
      rw [← hx] at bx C1
      have Hx' := Lib.hid hx; clear hx hc hs
      obtain ⟨wo, rfl⟩ : ∃ wo : World, wo = wr := ⟨_, rfl⟩
      go_wp2
      go_loopw [7, 8] (fun cy j wr => ∃ k c os, k ≤ m + 1 ∧ j = .int .i64 ((k : Nat) : Int) ∧ cy = .int .u64 ((c : Nat) : Int) ∧ Arr wr w.heap.size os ∧ Hid (mulIn n (m + 1) i k c os xs ys) ∧ Hid (Below w.heap.size w wr)) (fun _ j _ => m + 1 - (intOf j).toNat)
      case atStart => exact ⟨0, 0, os, Nat.zero_le _, rfl, rfl, hA, Lib.hid (mulIn_zero Hs.out), Hbl⟩
      case round =>
        clear hA Hs Hbl
        obtain ⟨k, c, os, hk, rfl, rfl, hA, Hs, Hbl⟩ := hrel
        have ⟨hol, hos, _, hcb, _⟩ := Hs.out
        have Ol := Lib.hid hol; clear hol
        by_cases hkm : k ≤ m
        · have by' := lims_getD Hy.out k
          have bo := lims_getD hos (i + k)
          obtain ⟨y, hy⟩ : ∃ y, y = ys.getD k 0 := ⟨_, rfl⟩
          obtain ⟨u, hu⟩ : ∃ u, u = os.getD (i + k) 0 := ⟨_, rfl⟩
          have c1 := (Hbl.out.cell (p := ⟨b1, off + i, none⟩) hbw).trans C1.out
          have c3 := hA.cell (i + k) (by rw [Ol.out]; omega)
          have c4 := hA.frozen (i + k)
          have L2 := Lib.hid (limb_q _ ys k _ (H'.out.below Hbl.out) (by omega))
          rw [← hy] at by' L2
          rw [← hu] at bo c3
          have Hy' := Lib.hid hy; clear hy
          have Hu := Lib.hid hu; clear hu
          have hxy := mul_bound bx by'
          clear hos
          go_wp2_with fail
          go_quiet ((go_at_call 70; exact Calls.quiet_of_same (L2.out _)))
          go_wp2
          go_roundw
          case rel =>
            exact ⟨k + 1, _, _, by omega, by go_num, congrArg (Value.int .u64) (Int.toNat_of_nonneg (by omega)).symm, hA.drewN.setI (i + k) _ (by omega), Lib.hid (mulIn_stepI Hs.out (by omega) hin Hx'.out Hy'.out Hu.out Hx.out Hy.out _ rfl), Lib.hid ((below_drewN Hbl.out _).setCell (Nat.le_refl _) _)⟩
          case measure => simp [intOf] <;> omega
        · obtain rfl : k = m + 1 := by omega
          have hD := mulIn_done Hs.out Hx.out Hy.out (by have := Hm.out; omega)
          obtain ⟨hc0, hO⟩ := hD
          subst hc0
          have HO := Lib.hid hO; clear hO hos
          go_wp2
          go_roundw
          case rel => exact ⟨i + 1, _, by omega, by go_num, hA, HO, Hbl⟩
          case measure => simp [intOf] <;> omega
    · obtain rfl : i = n := by omega
      have HE := Lib.hid (mulOut_end Hs.out (by have := Hn.out; omega))
      go_wp2_with fail
      refine (rmake_any _ _ _ (hA.sl (n := i + (m + 1)) HE.out.1 HE.out.2.1 (Nat.le_refl _) (by omega))).mono ?_
      rintro e w4 ⟨v1, rfl, h1, hb4⟩
      rw [HE.out.2.2] at h1
      have HB := Hbl.out.trans (hb4.mono Hbl.out.size)
      clear hb4
      go_wp2
      go_ret
      exact ⟨_, rfl, h1, HB⟩

end Go.Proofs.Ytfkjhaniglmejaa
