/- Walks over the reference of package natural, seventh part: DivMod bit by bit, Gcd. -/
import Derived.Test.YtfkjhaniglmejaaRefE
namespace Go.Proofs.Ytfkjhaniglmejaa
open Go.RowKit Nt

set_option maxRecDepth 100000 in
set_option maxHeartbeats 2000000 in
theorem rdiv_big (v v' : Value) (xs ys : List Nat) (w : World) (h : Sl w v xs) (h' : Sl w v' ys) (hxl : xs.length ≤ 2147483648) (hyl : ys.length ≤ 2147483648) (h0 : 0 < val ys)
    (hbig : uintB (val ys) = false ∨ (uintB (val ys) = true ∧ uintB (val xs) = false)) :
    Calls Try.prog 95 #[v, v'] w (Ret w (Num2E (val xs / val ys) (val xs % val ys) 0)) := by
  have hT1 : uintB (val ys) = true → ((uintN (val ys) : Nat) : Int) ≠ 0 := fun hb => by
    have : val ys < 18446744073709551616 := by simpa [uintB] using hb
    simp [uintN, this]; omega
  go_enter Try.func95, Try.ntmps95
  go_wp2_with fail
  refine (ruint_any _ xs _ h).mono ?_
  rintro e w1 ⟨v1, rfl, h1, hb1⟩
  unfold UintP at h1
  subst h1
  have h1 := h.below hb1
  have h'1 := h'.below hb1
  go_wp2_with fail
  refine (ruint_any _ ys _ h'1).mono ?_
  rintro e w2 ⟨v2, rfl, h2, hb2⟩
  unfold UintP at h2
  subst h2
  have HX := Lib.hid (h1.below hb2)
  have HY := Lib.hid (h'1.below hb2)
  have HB := Lib.hid (hb1.trans (hb2.mono hb1.size))
  have Hyl := Lib.hid hyl
  have H0 := Lib.hid h0
  have HXl := Lib.hid HX.out.lims
  have hbl : blen (val xs) ≤ 68719476736 := by
    rcases Nat.eq_zero_or_pos (val xs) with hz | hz
    · rw [hz, blen_zero]; omega
    · rw [blen_top hz]
      have h3 := sz_val h.lims
      have h4 := bitLen_le (lims_getD (lims_limbs (val xs)) (sz (val xs) - 1))
      omega
  have HBL : Hid (blen (val xs) ≤ 32 * xs.length) := Lib.hid (by
    rcases Nat.eq_zero_or_pos (val xs) with hz | hz
    · rw [hz, blen_zero]; omega
    · rw [blen_top hz]
      have h3 := sz_val h.lims
      have h3' := sz_pos hz
      have h4 := bitLen_le (lims_getD (lims_limbs (val xs)) (sz (val xs) - 1))
      omega)
  have HBS := Lib.hid (blen_spec (val xs))
  have hxl8 : Hid (xs.length ≤ 8589934592) := Lib.hid (by omega)
  obtain ⟨ad, n, cap, rfl, hn, hnc, hm, -, hs⟩ := HX.out
  have hn4 : n ≤ 2147483648 := by omega
  have Hn := Lib.hid hn
  clear h h' h1 h'1 hb1 hb2 hxl hyl h0 hn
  generalize hA : val xs = A at *
  generalize hV : val ys = V at *
  have HA := Lib.hid hA
  have HV := Lib.hid hV
  clear hA hV
  have hcase : (uintB A = true ∧ uintB V = false) ∨ (uintB A = false ∧ uintB V = false) ∨ (uintB A = false ∧ uintB V = true ∧ (((uintN V : Nat) : Int) == 0) = false) := by
    rcases hbig with hb | ⟨hb1, hb2⟩
    · rcases Bool.eq_false_or_eq_true (uintB A) with ha | ha
      · exact Or.inl ⟨ha, hb⟩
      · exact Or.inr (Or.inl ⟨ha, hb⟩)
    · exact Or.inr (Or.inr ⟨hb2, hb1, by simpa using hT1 hb1⟩)
  clear hbig hT1
  rcases hcase with ⟨e1, e2⟩ | ⟨e1, e2⟩ | ⟨e1, e2, e3⟩
  all_goals
    go_wp2_with (at_make; refine wpList_make_u32 _ rfl _ _ _ rfl 64 Try.underlying22 Try.infoU32 _ n rfl rfl (by omega) (by omega) ?_; intro w0 hA0 hb0 _)
    have HX0 := Lib.hid ((HX.out.below hb0).below ((Below.refl _ _).alloc (Nat.le_refl _) (.cells #[] 64)))
    have HB0 := Lib.hid (hb0.alloc hb0.size (.cells #[] 64))
    have HAr0 := Lib.hid (hA0.below ((Below.refl w0.heap.size w0).alloc (Nat.le_refl _) (.cells #[] 64)) hA0.lt)
    clear hb0 hA0
    go_wp2_with fail
    refine (rbits_any _ xs _ HX0.out hxl8.out).mono ?_
    rintro e w4 ⟨v4, rfl, h4, hb4⟩
    unfold Val at h4
    subst h4
    rw [HA.out]
    have HB4 := Lib.hid (HB0.out.trans (hb4.mono HB0.out.size))
    have HAr4 := Lib.hid (HAr0.out.below hb4 HAr0.out.lt)
    have HN0 : Hid (∀ g, Sl w4 (.slice g 0 0) (limbs (A / 2 ^ blen A % V))) := Lib.hid fun g => by
      rw [Nat.div_eq_of_lt HBS.out.1, Nat.zero_mod, limbs_zero]
      exact ⟨_, 0, 0, rfl, rfl, Nat.le_refl _, by decide, lims_nil, fun h => absurd h (by decide)⟩
    have HI0 : Hid (bitsInv n (blen A) (A / 2 ^ blen A / V) (List.replicate n 0)) := Lib.hid (by
      rw [Nat.div_eq_of_lt HBS.out.1, Nat.zero_div]; exact bitsInv_zero _ _)
    have HBL2 : Hid (blen A ≤ 32 * n) := Lib.hid (by rw [← Hn.out]; exact HBL.out)
    clear hb4 HX0 HB0 HAr0
    go_wp2_with fail
    go_loopw [12, 13] (fun r i wr => ∃ (k : Nat) (qs : List Nat), k ≤ 68719476736 ∧ i = .int .i64 ((k : Int) - 1) ∧ Hid (k ≤ 32 * n) ∧ Hid (Sl wr r (limbs (A / 2 ^ k % V))) ∧ Hid (Arr wr w2.heap.size qs) ∧ Hid (bitsInv n k (A / 2 ^ k / V) qs) ∧ Hid (Below w2.heap.size w2 wr)) (fun _ i _ => (intOf i + 1).toNat)
    case atStart => exact ⟨blen A, _, hbl, rfl, HBL2, Lib.hid (HN0.out _), HAr4, HI0, HB4⟩
    case round =>
      clear HN0 HAr4 HI0 HB4 hbl
      obtain ⟨k, qs, hk, rfl, Hk, HR, HAr, HI, HBl⟩ := hrel
      rcases Nat.eq_zero_or_pos k with hk0 | hk0
      · subst hk0
        rw [Nat.pow_zero, Nat.div_one] at HR HI
        have HQ : Hid (val qs = A / V) := Lib.hid (by rw [HI.out.2.2, Nat.pow_zero, Nat.one_mul])
        go_wp2_with fail
        refine (rmake_any _ qs _ (HAr.out.sl (n := n) HI.out.2.1 HI.out.1 (Nat.le_refl _) (by omega))).mono ?_
        rintro e w5 ⟨v5, rfl, h5, hb5⟩
        rw [HQ.out] at h5
        have HR5 := Lib.hid (HR.out.below hb5)
        have HB5 := Lib.hid (HB.out.trans ((HBl.out.trans (hb5.mono HBl.out.size)).mono HB.out.size))
        clear hb5
        go_wp2
        go_ret3
        exact ⟨_, rfl, ⟨_, _, rfl, h5, HR5.out⟩, HB5.out⟩
      · obtain ⟨j, rfl⟩ : ∃ j, k = j + 1 := ⟨k - 1, by omega⟩
        rw [show ((j + 1 : Nat) : Int) - 1 = (j : Int) from by omega]
        obtain ⟨p, hp⟩ : ∃ p, p = j / 32 := ⟨_, rfl⟩
        obtain ⟨s, hsr⟩ : ∃ s, s = j % 32 := ⟨_, rfl⟩
        have f1 : (j : Int) / 32 = (p : Int) := by omega
        have f2 : (j : Int) % 32 = (s : Int) := by omega
        have f3 : IntKind.i64.wrap ((j : Int) / 32) = (p : Int) := by rw [IntKind.wrap_i64]; omega
        have f4 : (j : Int).tmod 32 = (s : Int) := by rw [Int.tmod_eq_emod_of_nonneg (by omega)]; omega
        have hpn : p < n := by have := Hk.out; omega
        have hs31 : s ≤ 31 := by omega
        have Hj : Hid (j = 32 * p + s) := Lib.hid (by omega)
        have hjk : j ≤ 68719476736 := by omega
        obtain ⟨b1, off, rfl, hbw, hc⟩ := hs (by omega)
        have bx := lims_getD HXl.out p
        have hbit := bit_of HXl.out (p := p) (s := s) (by rw [Hn.out]; exact hpn) hs31
        obtain ⟨x, hx⟩ : ∃ x, x = xs.getD p 0 := ⟨_, rfl⟩
        have C1 := Lib.hid (hc p hpn)
        rw [← hx] at bx hbit C1
        rw [HA.out, ← Hj.out] at hbit
        obtain ⟨bt, hbt⟩ : ∃ bt, bt = A / 2 ^ j % 2 := ⟨_, rfl⟩
        rw [← hbt] at hbit
        have hb2 : bt < 2 := by omega
        have ha : bits .and .u32 ((x : Int) / 2 ^ s) 1 = (bt : Int) := by
          have h1 := and_one (x / 2 ^ s) (Nat.lt_of_le_of_lt (Nat.div_le_self _ _) bx)
          rw [hbit] at h1
          rw [← h1]; congr 1
        have HDS := Lib.hid (div_step (m := A / 2 ^ (j + 1)) (V := V) (b := bt) H0.out hb2)
        have HBJ := Lib.hid (bit_step A j)
        rw [← hbt] at HBJ
        have HRV : Hid (A / 2 ^ (j + 1) % V < V) := Lib.hid (Nat.mod_lt _ H0.out)
        generalize A / 2 ^ (j + 1) = m at *
        have HszV : Hid (sz V ≤ 2147483648) := Lib.hid (by rw [← HV.out]; exact Nat.le_trans (sz_val HY.out.lims) Hyl.out)
        have Hsz1 : Hid ((limbs (m % V)).length ≤ 4294967296) := Lib.hid (by
          have h1 : sz (m % V) ≤ sz V := sz_mono (Nat.le_of_lt HRV.out)
          have := HszV.out
          unfold sz at *; omega)
        have Hsz2 : Hid ((limbs (m % V * 2)).length ≤ 2147483652) := Lib.hid (by
          have h1 : sz (m % V) ≤ sz V := sz_mono (Nat.le_of_lt HRV.out)
          have h2 := sz_mul (m % V) 2
          have h3 : sz 2 ≤ 1 := sz_le (by decide)
          have := HszV.out
          unfold sz at *; omega)
        have Hsz3 : Hid ((limbs (2 * (m % V) + bt)).length ≤ 2147483656) := Lib.hid (by
          have h2 := sz_add (m % V * 2) bt
          have h3 : sz bt ≤ 1 := sz_le (by omega)
          have := Hsz2.out
          rw [Nat.mul_comm 2]
          unfold sz at *; omega)
        clear hbt hbit hx hc hk Hk hsr hp
        go_wp2_with fail
        refine (rshl_one _ (limbs (m % V)) _ HR.out Hsz1.out).mono ?_
        rintro e w5 ⟨v5, rfl, h5, hb5⟩
        unfold Num at h5
        rw [val_limbs] at h5
        have HB5 := Lib.hid (HBl.out.trans (hb5.mono HBl.out.size))
        have HAr5 := Lib.hid (HAr.out.below hb5 HAr.out.lt)
        have c1 := (HB5.out.cell (p := ⟨b1, off + p, none⟩) hbw).trans C1.out
        have H5 := Lib.hid (h5.below ((Below.refl _ _).alloc (Nat.le_refl _) (.cells #[.int .u32 (bt : Int)] 64)))
        have S1 := sl_one w5 64 (bt : Int) (by omega)
        rw [Int.toNat_natCast] at S1
        have HS1 := Lib.hid S1
        clear S1 h5 hb5
        go_wp2_with fail
        refine (radd_any _ _ _ [bt] _ H5.out HS1.out (by have := Hsz2.out; omega) (by simp)).mono ?_
        rintro e w6 ⟨v6, rfl, h6, hb6⟩
        unfold Num at h6
        rw [val_limbs, show m % V * 2 + val [bt] = 2 * (m % V) + bt by simp only [val]; omega] at h6
        have HB6 := Lib.hid ((HB5.out.alloc HB5.out.size _).trans (hb6.mono (base_alloc HB5.out.size _)))
        have HAr6 := Lib.hid ((HAr5.out.below ((Below.refl _ _).alloc (Nat.le_refl _) _) HAr5.out.lt).below hb6 (by have := HAr5.out.lt; simp; omega))
        have H6 := Lib.hid h6
        have HY6 := Lib.hid (HY.out.below HB6.out)
        clear h6 hb6 c1
        go_wp2_with fail
        refine (rcmp_any _ _ _ _ _ H6.out HY6.out).mono ?_
        rintro e w7 ⟨v7, rfl, h7, hb7⟩
        unfold Val at h7
        subst h7
        rw [val_limbs, HV.out]
        have HB7 := Lib.hid (HB6.out.trans (hb7.mono HB6.out.size))
        have HAr7 := Lib.hid (HAr6.out.below hb7 HAr6.out.lt)
        have H7 := Lib.hid (H6.out.below hb7)
        have HY7 := Lib.hid (HY6.out.below hb7)
        clear hb7
        rcases Nat.lt_or_ge (2 * (m % V) + bt) V with hlt | hge
        · have hcd := cmp_nge hlt
          have HD := Lib.hid (HDS.out.1 hlt)
          have Hlt := Lib.hid hlt
          clear hlt
          generalize cmpN (2 * (m % V) + bt) V = cm at *
          go_wp2
          go_roundw
          case rel =>
            refine ⟨j, qs, hjk, rfl, Lib.hid (by have := Hj.out; omega), Lib.hid ?_, HAr7, Lib.hid ?_, HB7⟩
            · rw [HBJ.out, HD.out.2]; exact H7.out
            · rw [HBJ.out, HD.out.1]; exact bitsInv_even HI.out
          case measure => simp [intOf] <;> omega
        · have hcd := cmp_ge hge
          have HD := Lib.hid (HDS.out.2 hge)
          have Hge := Lib.hid hge
          clear hge
          generalize cmpN (2 * (m % V) + bt) V = cm at *
          go_wp2_with fail
          refine (rsub_anyF _ _ _ _ _ H7.out HY7.out (by have := Hsz3.out; omega)).mono ?_
          rintro e w8 ⟨v8, rfl, ⟨v9, rfl, h9, hf9⟩, hb8⟩
          rw [val_limbs, HV.out] at h9
          have HB8 := Lib.hid (HB7.out.trans (hb8.mono HB7.out.size))
          have HAr8 := Lib.hid (HAr7.out.below hb8 HAr7.out.lt)
          have H9 := Lib.hid h9
          have Hf9 := Lib.hid hf9
          have Hlt7 := Lib.hid HAr7.out.lt
          clear h9 hf9 hb8
          have c3 := HAr8.out.cell p (by rw [HI.out.1]; exact hpn)
          have c4 := HAr8.out.frozen p
          have bu := lims_getD HI.out.2.1 p
          have HIj : Hid (bitsInv n (32 * p + s + 1) (m / V) qs) := Lib.hid (by rw [← Hj.out]; exact HI.out)
          obtain ⟨u, hu⟩ : ∃ u, u = qs.getD p 0 := ⟨_, rfl⟩
          rw [← hu] at c3 bu
          have Hu := Lib.hid hu; clear hu
          have HOr : Hid (bits .or .u32 (u : Int) ((2 : Int) ^ s % 4294967296) = ((qs.getD p 0 + 2 ^ s : Nat) : Int)) := Lib.hid (by
            obtain ⟨mm, hm1, hm2⟩ := bitsInv_limb HIj.out hpn hs31
            have h31 : 2 ^ s ≤ 2 ^ 31 := Nat.pow_le_pow_right (by decide) hs31
            have e31 : 2 ^ 31 = 2147483648 := by decide
            have e1 : (2 : Int) ^ s % 4294967296 = ((2 ^ s : Nat) : Int) := by
              have : ((2 ^ s : Nat) : Int) = (2 : Int) ^ s := by simp
              rw [← this]
              generalize 2 ^ s = P at h31 ⊢
              omega
            have hps : 0 < 2 ^ s := Nat.pow_pos (by decide)
            rw [e1, Hu.out, u32_or_nat _ _ (by omega) (by omega), hm1, Nat.or_comm, Nat.mul_comm, or_low (by rw [Nat.pow_succ]; omega), Nat.add_comm])
          go_wp2_with fail
          go_region
          have HW := Lib.hid ((HB8.out.setCell (p := ⟨w2.heap.size, p, none⟩) (Nat.le_refl _) (.int .u32 (bits .or .u32 (u : Int) ((2 : Int) ^ s % 4294967296)))).drew)
          have HS9 : Hid (Sl (w8.setCell ⟨w2.heap.size, p, none⟩ (.int .u32 (bits .or .u32 (u : Int) ((2 : Int) ^ s % 4294967296)))).drew v9 (limbs (2 * (m % V) + bt - V))) := Lib.hid ((H9.out.older Hf9.out Hlt7.out).drew)
          have HA9 : Hid (Arr (w8.setCell ⟨w2.heap.size, p, none⟩ (.int .u32 (bits .or .u32 (u : Int) ((2 : Int) ^ s % 4294967296)))).drew w2.heap.size (qs.set p (qs.getD p 0 + 2 ^ s))) := Lib.hid (by
            rw [HOr.out]; exact (HAr8.out.set p _).drew)
          clear c3 c4
          go_wp2
          go_roundw
          case rel =>
            refine ⟨j, _, hjk, rfl, Lib.hid (by have := Hj.out; omega), Lib.hid ?_, HA9, Lib.hid ?_, HW⟩
            · rw [HBJ.out, HD.out.2]; exact HS9.out
            · rw [HBJ.out, HD.out.1, Hj.out]; exact bitsInv_odd HIj.out hpn hs31
          case measure => simp [intOf] <;> omega

end Go.Proofs.Ytfkjhaniglmejaa
