/- Texts NatA NatB NatC NatD NatE NatF, in this order. -/
import Derived.Test.YtikglhmabidjoaaGreatDoorRows
import Derived.Test.YtikglhmabidjoaaGreatDoorBa
import Derived.WalkSmall
namespace Go.Proofs.YtikglhmabidjoaaGreatDoor
open Go.RowKit Nt
theorem Tryz.infoU32 : (Tryz.prog.info? 156).map (fun i => (i.zero, i.size, i.bytes)) = some (some (.int .u32 0), 1, 4) := by kernel_rfl
def Trimmed (n : Nat) (w : World) (e : Ending) (w' : World) : Prop := ∃ v', e = .returned v' ∧ Sl w v' (limbs n) ∧ w = w'
theorem trim_fin {w : World} {b off n cap k : Nat} {xs : List Nat} (hx : lims xs) (hn : xs.length = n) (hk : k ≤ n) (hk0 : 0 < k) (hnc : n ≤ cap) (hm : n ≤ 1099511627776)
    (hb : b < w.heap.size) (hc : ∀ i, i < n → w.cell? ⟨b, off + i, none⟩ = some (.int .u32 ((xs.getD i 0 : Nat) : Int)))
    (hv : val (xs.take k) = val xs) (hne : xs.getD (k - 1) 0 ≠ 0) : Sl w (.slice (some ⟨b, off, none⟩) k cap) (limbs (val xs)) := by
  rw [← hv, limbs_val (lims_take hx k) (Or.inr (by simpa [List.getD, List.getElem?_take, show min k xs.length - 1 = k - 1 by omega, show k - 1 < k by omega] using hne))]
  exact ⟨_, k, cap, rfl, by simp; omega, by omega, by omega, lims_take hx k, fun _ => ⟨b, off, rfl, hb, fun i hi => by
    rw [hc i (by omega)]; simp [List.getD, hi]⟩⟩
set_option maxHeartbeats 400000 in
theorem trim_any (v : Value) (xs : List Nat) (w : World) (h : Sl w v xs) : Calls Tryz.prog 178 #[v] w (Trimmed (val xs) w) := by
  obtain ⟨ad, n, cap, rfl, hn, hnc, hm, hx, hs⟩ := h
  have Hn := Lib.hid hn; clear hn
  have Hx := Lib.hid hx; clear hx
  go_enter Tryz.func178, Tryz.ntmps178
  go_wp2
  go_loop [3] (fun t => ∃ k : Nat, k ≤ n ∧ t = .int .i64 k ∧ Hid (val (xs.take k) = val xs)) (fun t => (intOf t).toNat)
  case atStart => exact ⟨n, Nat.le_refl _, rfl, Lib.hid (val_take_ge (by rw [Hn.out]; exact Nat.le_refl _))⟩
  case round =>
    obtain ⟨k, hk, rfl, Hv⟩ := hrel
    by_cases hk0 : 0 < k
    · obtain ⟨b, off, rfl, hbw, hc⟩ := hs (by omega)
      have hck := hc (k-1) (by omega)
      have Hc := Lib.hid hc; clear hc hs
      go_wp2
      · go_round
        case rel =>
          refine ⟨k - 1, by omega, by go_num, ?_⟩
          have h0 : xs.getD (k - 1) 0 = 0 := by have := (by assumption : ((((xs[k - 1]?.getD 0 : Nat) : Int) == 0) = true)); simpa [List.getD] using this
          have := val_take_step xs (k - 1)
          rw [show k - 1 + 1 = k by omega, h0, Hv.out] at this
          exact Lib.hid (by omega)
        case measure => simp [intOf]; omega
      · go_ret
        have h0 : xs.getD (k - 1) 0 ≠ 0 := by have := (by assumption : ((((xs[k - 1]?.getD 0 : Nat) : Int) == 0) = false)); simpa [List.getD] using this
        exact ⟨_, rfl, trim_fin Hx.out Hn.out hk hk0 hnc hm hbw Hc.out Hv.out h0, rfl⟩
    · obtain rfl : k = 0 := by omega
      have hv0 : val xs = 0 := by rw [← Hv.out]; rfl
      have HV := Lib.hid hv0; clear hv0
      go_wp2
      go_ret
      exact ⟨_, rfl, by rw [HV.out, limbs_zero]; exact Sl.nil w, rfl⟩
def Copied (xs : List Nat) (w : World) (v : Value) : Prop := Sl w v xs
set_option maxHeartbeats 400000 in
theorem clone_any (v : Value) (xs : List Nat) (w : World) (h : Sl w v xs) : Calls Tryz.prog 201 #[v] w (Ret w (Copied xs)) := by
  have H := Lib.hid h
  obtain ⟨ad, n, cap, rfl, hn, -⟩ := h
  have Hn := Lib.hid hn; clear hn
  cases ad with
  | none =>
    have h0 : n = 0 ∧ xs = [] := by
      obtain ⟨ad', n', cap', hv, hl, _, _, _, hs⟩ := H.out
      injection hv with e1 e2 e3
      have : n = 0 := by
        rcases Nat.eq_zero_or_pos n with h | h
        · exact h
        · obtain ⟨b, off, he, _⟩ := hs (by omega)
          rw [← e1] at he; cases he
      exact ⟨this, List.eq_nil_of_length_eq_zero (by rw [Hn.out]; exact this)⟩
    obtain ⟨rfl, rfl⟩ := h0
    have heq := fun (w : World) a l c => Lib.run_eql_slice_nil (P := Tryz.prog) w 35 156 a l c 0 0 Tryz.underlying35
    go_enter Tryz.func201, Tryz.ntmps201
    go_wp2
    go_ret
    exact ⟨_, rfl, Sl.nil w, Below.refl _ _⟩
  | some a =>
    have heq := fun (w : World) a l c => Lib.run_eql_slice_nil (P := Tryz.prog) w 35 156 a l c 0 0 Tryz.underlying35
    go_enter Tryz.func201, Tryz.ntmps201
    go_wp2_with (at_builtin; refine wpList_copy_u32 _ rfl _ _ _ _ rfl 156 Tryz.underlying35 Tryz.underlying35 Tryz.infoU32 _ rfl _ xs rfl (H.out.below ((Below.refl _ _).alloc (Nat.le_refl _) _)) ?_; intro v1 w1 h1 hb1)
    go_wp2
    go_ret
    exact ⟨_, rfl, h1, ((Below.refl _ _).alloc (Nat.le_refl _) _).trans (hb1.mono (by simp))⟩
set_option maxHeartbeats 400000 in
theorem make_any (v : Value) (xs : List Nat) (w : World) (h : Sl w v xs) : Calls Tryz.prog 174 #[v] w (Ret w (Num (val xs))) := by
  go_enter Tryz.func174, Tryz.ntmps174
  go_wp2_with fail
  refine (trim_any _ xs _ h).mono ?_
  rintro e w' ⟨v1, rfl, h1, rfl⟩
  go_wp2_with fail
  refine (clone_any _ _ _ h1).mono ?_
  rintro e w' ⟨v2, rfl, h2, hb2⟩
  go_wp2
  go_ret
  exact ⟨_, rfl, h2, hb2⟩
def canon (xs : List Nat) : Bool := xs.length == 0 || xs.getD (xs.length - 1) 0 != 0
theorem canon_pos {xs : List Nat} (h : 0 < xs.length) : canon xs = (xs.getD (xs.length - 1) 0 != 0) := by
  have : (xs.length == 0) = false := by simp; intro h0; rw [h0] at h; exact absurd h (by decide)
  simp [canon, this]
theorem canon_limbs (n : Nat) : canon (limbs n) = true := by
  rcases Nat.eq_zero_or_pos n with h | h
  · subst h; rw [limbs_zero]; rfl
  · rw [canon_pos (sz_pos h)]
    simpa [bne_iff_ne] using limbs_last h
theorem val_two (x : Nat) (h : x < 18446744073709551616) : val [((x : Int) % 4294967296).toNat, ((x : Int) / 4294967296).toNat] = x := by
  simp only [val]; omega
set_option maxHeartbeats 400000 in
theorem of_any (x : Nat) (w : World) (h : x < 18446744073709551616) : Calls Tryz.prog 182 #[.int .u64 (x : Int)] w (Ret w (Num x)) := by
  go_enter Tryz.func182, Tryz.ntmps182
  go_wp2_with fail
  refine (trim_any _ _ _ (sl_two w _ _ _ (by omega) (by omega))).mono ?_
  rintro e w' ⟨v1, rfl, h1, rfl⟩
  rw [val_two x h] at h1
  go_wp2
  go_ret
  exact ⟨_, rfl, h1, (Below.refl _ _).alloc (Nat.le_refl _) _⟩
set_option maxHeartbeats 400000 in
theorem valid_any (v : Value) (xs : List Nat) (w : World) (h : Sl w v xs) : Calls Tryz.prog 164 #[v] w (Ret w (Val (.bool (canon xs)))) := by
  obtain ⟨ad, n, cap, rfl, hn, hnc, hm, -, hs⟩ := h
  rcases Nat.eq_zero_or_pos n with h0 | h0
  · obtain rfl : xs = [] := List.eq_nil_of_length_eq_zero (by omega)
    subst h0
    go_enter Tryz.func164, Tryz.ntmps164
    go_wp2
    go_ret
    exact ⟨_, rfl, rfl, Below.refl _ _⟩
  · obtain ⟨b, off, rfl, hb, hc⟩ := hs h0
    have hck := hc (n - 1) (by omega)
    have hfin := canon_pos (xs := xs) (by omega)
    rw [hn] at hfin
    have Hfin := Lib.hid hfin
    have hne : ((n : Int) == 0) = false := by simp; omega
    clear hc hs hn hfin
    go_enter Tryz.func164, Tryz.ntmps164
    go_wp2
    go_ret
    refine ⟨_, rfl, ?_, Below.refl _ _⟩
    show Value.bool _ = Value.bool _
    rw [Hfin.out]
    refine congrArg Value.bool ?_
    rw [Bool.eq_iff_iff]; simp [List.getD]
set_option maxHeartbeats 400000 in
theorem limb_any (v : Value) (xs : List Nat) (i : Nat) (w : World) (h : Sl w v xs) (hi : i ≤ 1099511627780) :
    Calls Tryz.prog 145 #[v, .int .i64 (i : Int)] w fun e w' => e = .returned (.int .u32 ((xs.getD i 0 : Nat) : Int)) ∧ w = w' := by
  obtain ⟨ad, n, cap, rfl, hn, hnc, hm, -, hs⟩ := h
  by_cases h0 : i < n
  · obtain ⟨b, off, rfl, hb, hc⟩ := hs (by omega)
    have hck := hc i h0
    clear hc hs hn
    go_enter Tryz.func145, Tryz.ntmps145
    go_wp2
    go_ret
    exact ⟨rfl, rfl⟩
  · have hz : xs.getD i 0 = 0 := by simp [List.getD, show xs.length ≤ i by omega]
    rw [hz]
    clear hz hn hs
    go_enter Tryz.func145, Tryz.ntmps145
    go_wp2
    go_ret
    exact ⟨rfl, rfl⟩
end Go.Proofs.YtikglhmabidjoaaGreatDoor
namespace Go.Proofs.YtikglhmabidjoaaGreatDoor
open Go.RowKit Nt
theorem list_ext_getD {xs ys : List Nat} (hl : xs.length = ys.length) (h : ∀ i, i < xs.length → xs.getD i 0 = ys.getD i 0) : xs = ys := by
  apply List.ext_getElem hl
  intro i h1 h2
  have := h i h1
  simpa [List.getD, h1, h2] using this
def same (xs ys : List Nat) : Bool := decide (xs = ys)
theorem same_no_len {xs ys : List Nat} (h : xs.length ≠ ys.length) : same xs ys = false := by
  simp [same]; rintro rfl; exact h rfl
theorem same_no {xs ys : List Nat} {i : Nat} (h : xs.getD i 0 ≠ ys.getD i 0) : same xs ys = false := by
  simp [same]; rintro rfl; exact h rfl
theorem same_yes {xs ys : List Nat} (hl : xs.length = ys.length) (h : ∀ i, i < xs.length → xs.getD i 0 = ys.getD i 0) : same xs ys = true := by
  simp [same]; exact list_ext_getD hl h
set_option maxHeartbeats 400000 in
theorem same_any (v v' : Value) (xs ys : List Nat) (w : World) (h : Sl w v xs) (h' : Sl w v' ys) : Calls Tryz.prog 57 #[v, v'] w (Ret w (Val (.bool (same xs ys)))) := by
  obtain ⟨ad, n, cap, rfl, hn, hnc, hm, -, hs⟩ := h
  obtain ⟨ad', n', cap', rfl, hn', hnc', hm', -, hs'⟩ := h'
  by_cases hlen : n = n'
  · subst hlen
    have Hn := Lib.hid hn; clear hn
    have Hn' := Lib.hid hn'; clear hn'
    go_enter Tryz.func57, Tryz.ntmps57
    go_wp2
    go_loopw [5] (fun i wr => ∃ k : Nat, k ≤ n ∧ i = .int .i64 k ∧ Hid (∀ j, j < k → xs.getD j 0 = ys.getD j 0) ∧ Below w.heap.size w wr) (fun i _ => n - (intOf i).toNat)
    case atStart => exact ⟨0, Nat.zero_le _, rfl, Lib.hid (fun j hj => absurd hj (by omega)), Below.refl _ _⟩
    case round =>
      obtain ⟨k, hk, rfl, Hs, hb⟩ := hrel
      by_cases hkn : k < n
      · obtain ⟨b, off, rfl, hbw, hc⟩ := hs (by omega)
        obtain ⟨b', off', rfl, hbw', hc'⟩ := hs' (by omega)
        have c1 := (hb.cell (p := ⟨b, off + k, none⟩) hbw).trans (hc k hkn)
        have c2 := (hb.cell (p := ⟨b', off' + k, none⟩) hbw').trans (hc' k hkn)
        clear hc hc' hs hs'
        go_wp2
        go_quiet (fail)
        go_wp2
        · go_ret
          have hne : xs.getD k 0 ≠ ys.getD k 0 := by
            have := (by assumption : ((((xs[k]?.getD 0 : Nat) : Int) != ((ys[k]?.getD 0 : Nat) : Int)) = true))
            simp [List.getD] at this ⊢; omega
          refine ⟨_, rfl, ?_, below_drewN hb _⟩
          show Value.bool _ = Value.bool _
          rw [same_no hne]
        · go_roundw
          case rel =>
            have he : xs.getD k 0 = ys.getD k 0 := by
              have := (by assumption : ((((xs[k]?.getD 0 : Nat) : Int) != ((ys[k]?.getD 0 : Nat) : Int)) = false))
              simp [List.getD] at this ⊢; omega
            refine ⟨k + 1, by omega, by go_num, Lib.hid (fun j hj => ?_), below_drewN hb _⟩
            rcases Nat.lt_succ_iff_lt_or_eq.1 hj with h | h
            · exact Hs.out j h
            · rw [h]; exact he
          case measure => simp [intOf]; omega
      · have HF := Lib.hid (same_yes (xs := xs) (ys := ys) (by rw [Hn.out, Hn'.out]) (fun i hi => Hs.out i (by rw [Hn.out] at hi; omega)))
        clear hs hs'
        go_wp2
        go_ret
        refine ⟨_, rfl, ?_, hb⟩
        show Value.bool _ = Value.bool _
        rw [HF.out]
  · have HF := Lib.hid (same_no_len (xs := xs) (ys := ys) (by omega))
    have hne : ((n : Int) != n') = true := by rw [bne_iff_ne]; omega
    clear hs hs' hn hn'
    go_enter Tryz.func57, Tryz.ntmps57
    go_wp2
    go_ret
    refine ⟨_, rfl, ?_, Below.refl _ _⟩
    show Value.bool _ = Value.bool _
    rw [HF.out]
def NumF (B n : Nat) (w : World) (v : Value) : Prop := Sl w v (limbs n) ∧ FreshS B v
set_option maxHeartbeats 400000 in
theorem rmake_anyF (v : Value) (xs : List Nat) (w : World) (h : Sl w v xs) : Calls Tryz.prog 146 #[v] w (Ret w (NumF w.heap.size (val xs))) := by
  obtain ⟨ad, n, cap, rfl, hn, hnc, hm, hx, hs⟩ := h
  have Hn := Lib.hid hn; clear hn
  have Hx := Lib.hid hx; clear hx
  go_enter Tryz.func146, Tryz.ntmps146
  go_wp2
  go_loop [3] (fun t => ∃ k : Nat, k ≤ n ∧ t = .int .i64 k ∧ Hid (val (xs.take k) = val xs)) (fun t => (intOf t).toNat)
  case atStart => exact ⟨n, Nat.le_refl _, rfl, Lib.hid (val_take_ge (by rw [Hn.out]; exact Nat.le_refl _))⟩
  case round =>
    obtain ⟨k, hk, rfl, Hv⟩ := hrel
    by_cases hk0 : 0 < k
    · obtain ⟨b, off, rfl, hbw, hc⟩ := hs (by omega)
      have hck := hc (k-1) (by omega)
      have Hc := Lib.hid hc; clear hc hs
      by_cases h0 : xs.getD (k - 1) 0 = 0
      · have hz : ((((xs[k - 1]?.getD 0 : Nat) : Int) == 0) = true) := by simpa [List.getD] using h0
        have H0 := Lib.hid h0; clear h0
        go_wp2
        go_round
        case rel =>
          refine ⟨k - 1, by omega, by go_num, ?_⟩
          have := val_take_step xs (k - 1)
          rw [show k - 1 + 1 = k by omega, H0.out, Hv.out] at this
          exact Lib.hid (by omega)
        case measure => simp [intOf]; omega
      · have hz : ((((xs[k - 1]?.getD 0 : Nat) : Int) == 0) = false) := by simpa [List.getD] using h0
        have F := trim_fin (cap := cap) Hx.out Hn.out hk hk0 hnc hm hbw Hc.out Hv.out h0
        clear h0
        go_wp2_with (at_builtin; refine wpList_copy_u32F _ rfl _ _ _ _ rfl 156 Tryz.underlying35 Tryz.underlying34 Tryz.infoU32 _ rfl _ _ rfl (F.below ((Below.refl _ _).alloc (Nat.le_refl _) _)) ?_; intro v1 w1 h1 hf1 hb1)
        go_wp2
        go_ret
        exact ⟨_, rfl, ⟨h1, hf1.mono (by simp)⟩, ((Below.refl _ _).alloc (Nat.le_refl _) _).trans (hb1.mono (by simp))⟩
    · obtain rfl : k = 0 := by omega
      have hv0 : val xs = 0 := by rw [← Hv.out]; rfl
      have HV := Lib.hid hv0; clear hv0
      have hnil : ∀ c, Sl (w.alloc (.cells #[] 156)) (.slice (if cap = 0 then ad else ad) 0 c) [] := fun c => ⟨_, 0, c, rfl, rfl, Nat.zero_le _, by decide, lims_nil, fun h => absurd h (by decide)⟩
      go_wp2_with (at_builtin; refine wpList_copy_u32F _ rfl _ _ _ _ rfl 156 Tryz.underlying35 Tryz.underlying34 Tryz.infoU32 _ rfl _ [] rfl ⟨_, 0, _, rfl, rfl, Nat.zero_le _, by decide, lims_nil, fun h => absurd h (by decide)⟩ ?_; intro v1 w1 h1 hf1 hb1)
      go_wp2
      go_ret
      exact ⟨_, rfl, ⟨by rw [HV.out, limbs_zero]; exact h1, hf1.mono (by simp)⟩, ((Below.refl _ _).alloc (Nat.le_refl _) _).trans (hb1.mono (by simp))⟩
theorem rmake_any (v : Value) (xs : List Nat) (w : World) (h : Sl w v xs) : Calls Tryz.prog 146 #[v] w (Ret w (Num (val xs))) :=
  (rmake_anyF v xs w h).mono fun _ _ ⟨v', h1, h2, h3⟩ => ⟨v', h1, h2.1, h3⟩
set_option maxHeartbeats 400000 in
theorem rof_any (x : Nat) (w : World) (h : x < 18446744073709551616) : Calls Tryz.prog 109 #[.int .u64 (x : Int)] w (Ret w (Num x)) := by
  go_enter Tryz.func109, Tryz.ntmps109
  go_wp2_with fail
  refine (rmake_any _ _ _ (sl_two w _ _ _ (by omega) (by omega))).mono ?_
  rintro e w' ⟨v1, rfl, h1, hb1⟩
  rw [val_two x h] at h1
  go_wp2
  go_ret
  exact ⟨_, rfl, h1, ((Below.refl _ _).alloc (Nat.le_refl _) _).trans (hb1.mono (by simp))⟩
end Go.Proofs.YtikglhmabidjoaaGreatDoor
namespace Go.Proofs.YtikglhmabidjoaaGreatDoor
open Go.RowKit Nt
set_option maxHeartbeats 400000 in
theorem cmp_any (v v' : Value) (xs ys : List Nat) (w : World) (h : Sl w v xs) (h' : Sl w v' ys) :
    Calls Tryz.prog 165 #[v, v'] w (Ret w (Val (.int .i64 (cmpN (val xs) (val ys))))) := by
  go_enter Tryz.func165, Tryz.ntmps165
  go_wp2_with fail
  refine (trim_any _ xs _ h).mono ?_
  rintro e w' ⟨v1, rfl, h1, rfl⟩
  go_wp2_with fail
  refine (trim_any _ ys _ h').mono ?_
  rintro e w' ⟨v2, rfl, h2, rfl⟩
  clear h h'
  generalize val xs = a at *
  generalize val ys = b at *
  have hla := lims_limbs a
  have hlb := lims_limbs b
  have hva := val_limbs a
  have hvb := val_limbs b
  have hlen : (limbs a).length < (limbs b).length → a < b := limbs_len_lt
  have hlen' : (limbs b).length < (limbs a).length → b < a := limbs_len_lt
  obtain ⟨ls, ha⟩ : ∃ ls, ls = limbs a := ⟨_, rfl⟩
  obtain ⟨ms, hb⟩ : ∃ ms, ms = limbs b := ⟨_, rfl⟩
  rw [← ha] at h1 hla hva hlen hlen'
  rw [← hb] at h2 hlb hvb hlen hlen'
  clear ha hb
  obtain ⟨ad, n, cap, rfl, hn, hnc, hm, -, hs⟩ := h1
  obtain ⟨ad', n', cap', rfl, hn', hnc', hm', -, hs'⟩ := h2
  rcases Nat.lt_trichotomy n n' with hlt | heq | hlt
  · have HF := Lib.hid (cmpN_lt (hlen (by omega)))
    have hne : ((n : Int) != n') = true := by rw [bne_iff_ne]; omega
    clear hs hs' hlen hlen' hva hvb hla hlb hn hn'
    go_wp2
    go_ret
    refine ⟨_, rfl, ?_, Below.refl _ _⟩
    show Value.int _ _ = Value.int _ _
    rw [HF.out]
  · have hne : ((n : Int) != n') = false := by rw [bne_eq_false_iff_eq]; omega
    subst heq
    have Hn := Lib.hid hn; clear hn
    have Hn' := Lib.hid hn'; clear hn'
    have Ha := Lib.hid hla; clear hla
    have Hb := Lib.hid hlb; clear hlb
    have Hva := Lib.hid hva; clear hva
    have Hvb := Lib.hid hvb; clear hvb hlen hlen'
    go_wp2
    go_loopw [5] (fun i wr => ∃ k : Nat, k ≤ n ∧ i = .int .i64 ((k : Int) - 1) ∧ Hid (agree ls ms k) ∧ Below w.heap.size w wr) (fun i _ => (intOf i + 1).toNat)
    case atStart => exact ⟨n, Nat.le_refl _, rfl, Lib.hid (agree_top (by rw [Hn.out]; exact Nat.le_refl _) (by rw [Hn'.out]; exact Nat.le_refl _)), Below.refl _ _⟩
    case round =>
      obtain ⟨k, hk, rfl, Hs, hbl⟩ := hrel
      rcases Nat.eq_zero_or_pos k with hk0 | hk0
      · subst hk0
        have HF : Hid (cmpN a b = 0) := Lib.hid (cmpN_eq (by rw [← Hva.out, ← Hvb.out]; exact agree_zero Hs.out))
        clear hs hs'
        go_wp2
        go_ret
        refine ⟨_, rfl, ?_, hbl⟩
        show Value.int _ _ = Value.int _ _
        rw [HF.out]
      · obtain ⟨j, rfl⟩ : ∃ j, k = j + 1 := ⟨k - 1, by omega⟩
        rw [show ((j + 1 : Nat) : Int) - 1 = (j : Int) from by omega]
        obtain ⟨b1, off, rfl, hbw, hc⟩ := hs (by omega)
        obtain ⟨b1', off', rfl, hbw', hc'⟩ := hs' (by omega)
        have c1 := (hbl.cell (p := ⟨b1, off + j, none⟩) hbw).trans (hc j hk)
        have c2 := (hbl.cell (p := ⟨b1', off' + j, none⟩) hbw').trans (hc' j hk)
        clear hc hc' hs hs'
        rcases Nat.lt_trichotomy (ls.getD j 0) (ms.getD j 0) with hx | hx | hx
        · have HF : Hid (cmpN a b = -1) := Lib.hid (cmpN_lt (by rw [← Hva.out, ← Hvb.out]; exact agree_lt Hs.out Ha.out hx))
          have t1 : ((((ls[j]?.getD 0 : Nat) : Int) != ((ms[j]?.getD 0 : Nat) : Int)) = true) := by rw [bne_iff_ne]; simp [List.getD] at hx; omega
          have t2 : (ls[j]?.getD 0 < ms[j]?.getD 0) := by simpa [List.getD] using hx
          clear hx
          go_wp2
          go_quiet (fail)
          go_wp2
          go_quiet (fail)
          go_wp2
          go_ret
          refine ⟨_, rfl, ?_, below_drewN (below_drewN hbl _) _⟩
          show Value.int _ _ = Value.int _ _
          rw [HF.out]
        · have t1 : ((((ls[j]?.getD 0 : Nat) : Int) != ((ms[j]?.getD 0 : Nat) : Int)) = false) := by rw [bne_eq_false_iff_eq]; simp [List.getD] at hx; omega
          have Hx := Lib.hid hx; clear hx
          go_wp2
          go_quiet (fail)
          go_wp2
          go_roundw
          case rel => exact ⟨j, by omega, by go_num, Lib.hid (agree_step Hs.out Hx.out), below_drewN hbl _⟩
          case measure => simp [intOf] <;> omega
        · have HF : Hid (cmpN a b = 1) := Lib.hid (cmpN_gt (by rw [← Hva.out, ← Hvb.out]; exact agree_gt Hs.out Hb.out hx))
          have t1 : ((((ls[j]?.getD 0 : Nat) : Int) != ((ms[j]?.getD 0 : Nat) : Int)) = true) := by rw [bne_iff_ne]; simp [List.getD] at hx; omega
          have t2 : ¬ (ls[j]?.getD 0 < ms[j]?.getD 0) := by simp [List.getD] at hx; omega
          clear hx
          go_wp2
          go_quiet (fail)
          go_wp2
          go_quiet (fail)
          go_wp2
          go_ret
          refine ⟨_, rfl, ?_, below_drewN (below_drewN hbl _) _⟩
          show Value.int _ _ = Value.int _ _
          rw [HF.out]
  · have HF := Lib.hid (cmpN_gt (hlen' (by omega)))
    have hne : ((n : Int) != n') = true := by rw [bne_iff_ne]; omega
    clear hs hs' hlen hlen' hva hvb hla hlb hn hn'
    go_wp2
    go_ret
    refine ⟨_, rfl, ?_, Below.refl _ _⟩
    show Value.int _ _ = Value.int _ _
    rw [HF.out]
def addInv (n k c : Nat) (os xs ys : List Nat) : Prop :=
  os.length = n + 1 ∧ lims os ∧ c ≤ 1 ∧ val (os.take k) + 4294967296 ^ k * c = val (xs.take k) + val (ys.take k)
theorem addInv_zero (n : Nat) (xs ys : List Nat) : addInv n 0 0 (List.replicate (n + 1) 0) xs ys :=
  ⟨by simp, lims_replicate _, by decide, by simp [val]⟩
theorem addInv_step {n k c x y : Nat} {os xs ys : List Nat} (h : addInv n k c os xs ys) (hk : k < n) (hx : x = xs.getD k 0) (hy : y = ys.getD k 0) (hlx : lims xs) (hly : lims ys) (z : Int)
    (hz : z = (c : Int) + x + y) : addInv n (k + 1) (z / 4294967296).toNat (os.set k (z % 4294967296).toNat) xs ys := by
  obtain ⟨h1, h2, h3, h4⟩ := h
  have b1 := lims_getD hlx k
  have b2 := lims_getD hly k
  refine ⟨by simpa using h1, lims_set h2 _ _ (by omega), by omega, ?_⟩
  rw [val_set_take (by omega), val_take_step xs, val_take_step ys, Nat.pow_succ]
  have := add_step (o := val (os.take k)) (x := val (xs.take k) + val (ys.take k)) (y := xs.getD k 0 + ys.getD k 0) (p := 4294967296 ^ k) (c := c) (d := (z % 4294967296).toNat) (o' := (z / 4294967296).toNat) h4 (by omega)
  rw [this, Nat.mul_add]; omega
theorem addInv_end {n c : Nat} {os xs ys : List Nat} (h : addInv n n c os xs ys) (hn : xs.length ≤ n) (hm : ys.length ≤ n) : lims (os.set n c) ∧ (os.set n c).length = n + 1 ∧ val (os.set n c) = val xs + val ys := by
  obtain ⟨h1, h2, h3, h4⟩ := h
  refine ⟨lims_set h2 _ _ (by omega), by simpa using h1, ?_⟩
  have e := val_set_take (xs := os) (k := n) (x := c) (by omega)
  rw [List.take_of_length_le (by simp; omega)] at e
  rw [e, h4, val_take_ge hn, val_take_ge hm]
set_option maxHeartbeats 1000000 in
theorem add_any (v v' : Value) (xs ys : List Nat) (w : World) (h : Sl w v xs) (h' : Sl w v' ys) (hx : xs.length ≤ 4294967296) (hy : ys.length ≤ 4294967296) :
    Calls Tryz.prog 180 #[v, v'] w (Ret w (Num (val xs + val ys))) := by
  have hla := sz_val h.lims
  have hlb := sz_val h'.lims
  go_enter Tryz.func180, Tryz.ntmps180
  go_wp2_with fail
  refine (trim_any _ xs _ h).mono ?_
  rintro e w' ⟨v1, rfl, h1, rfl⟩
  go_wp2_with fail
  refine (trim_any _ ys _ h').mono ?_
  rintro e w' ⟨v2, rfl, h2, rfl⟩
  clear h h'
  unfold sz at hla hlb
  have Hva := Lib.hid (val_limbs (val xs))
  have Hvb := Lib.hid (val_limbs (val ys))
  generalize val xs = a at *
  generalize val ys = b at *
  generalize limbs a = ls at *
  generalize limbs b = ms at *
  obtain ⟨ad, n, cap, rfl, hn, hnc, hm, ha, hs⟩ := h1
  obtain ⟨ad', n', cap', rfl, hn', hnc', hm', hb, hs'⟩ := h2
  have hn4 : n ≤ 4294967296 := by omega
  have hn4' : n' ≤ 4294967296 := by omega
  clear hla hlb
  have Hn := Lib.hid hn; clear hn
  have Hn' := Lib.hid hn'; clear hn'
  have Ha := Lib.hid ha; clear ha
  have Hb := Lib.hid hb; clear hb
  by_cases hsw : n < n'
  · go_wp2_with (at_make; refine wpList_make_u32 _ rfl _ _ _ rfl 156 Tryz.underlying35 Tryz.infoU32 _ (n' + 1) rfl rfl (by omega) (by omega) ?_; intro w0 hA0 hb0 _)
    go_wp2
    go_loopw [6, 26] (fun cy i wr => ∃ k c os, k ≤ n' ∧ i = .int .i64 ((k : Nat) : Int) ∧ cy = .int .u64 ((c : Nat) : Int) ∧ Arr wr w.heap.size os ∧ Hid (addInv n' k c os ms ls) ∧ Below w.heap.size w wr) (fun _ i _ => n' - (intOf i).toNat)
    case atStart => exact ⟨0, 0, _, Nat.zero_le _, rfl, rfl, hA0, Lib.hid (addInv_zero _ _ _), hb0⟩
    case round =>
      obtain ⟨k, c, os, hk, rfl, rfl, hA, Hs, hbl⟩ := hrel
      have ⟨hol, _, hc1, _⟩ := Hs.out
      by_cases hkn : k < n'
      · obtain ⟨b1, off, rfl, hbw, hc⟩ := hs' (by omega)
        have c1 := (hbl.cell (p := ⟨b1, off + k, none⟩) hbw).trans (hc k hkn)
        have bx := lims_getD Hb.out k
        have by' := lims_getD Ha.out k
        have c3 := hA.cell k (by omega)
        have c4 := hA.frozen k
        have ex : ms.getD k 0 = ms[k]?.getD 0 := rfl
        have ey : ls.getD k 0 = ls[k]?.getD 0 := rfl
        rw [ex] at bx c1
        rw [ey] at by'
        have Ex := Lib.hid ex; clear ex
        have Ey := Lib.hid ey; clear ey
        have Ol := Lib.hid hol; clear hol
        by_cases hkm : k < n
        · obtain ⟨b2, off2, rfl, hbw2, hc2⟩ := hs (by omega)
          have c2 := (hbl.cell (p := ⟨b2, off2 + k, none⟩) hbw2).trans (hc2 k hkm)
          rw [Ey.out] at c2
          clear hc hc2 hs' hs
          go_wp2
          go_roundw
          case rel =>
            exact ⟨k + 1, _, _, by omega, by go_num, congrArg (Value.int .u64) (Int.toNat_of_nonneg (by omega)).symm, hA.setI k _ (by omega), Lib.hid (addInv_step Hs.out hkn Ex.out.symm Ey.out.symm Hb.out Ha.out _ (by omega)), hbl.setCell (Nat.le_refl _) _⟩
          case measure => simp [intOf] <;> omega
        · have hz : ls.getD k 0 = 0 := by simp [List.getD, show ls.length ≤ k by have := Hn.out; omega]
          have Hz := Lib.hid hz
          clear hz hc hs' hs
          go_wp2
          go_roundw
          case rel =>
            exact ⟨k + 1, _, _, by omega, by go_num, congrArg (Value.int .u64) (Int.toNat_of_nonneg (by omega)).symm, hA.setI k _ (by omega), Lib.hid (addInv_step (y := 0) Hs.out hkn Ex.out.symm Hz.out.symm Hb.out Ha.out _ (by omega)), hbl.setCell (Nat.le_refl _) _⟩
          case measure => simp [intOf] <;> omega
      · obtain rfl : k = n' := by omega
        have c3 := hA.cell k (by omega)
        have c4 := hA.frozen k
        have HE := Lib.hid (addInv_end Hs.out (by have := Hn'.out; omega) (by have := Hn.out; omega))
        have Ol := Lib.hid hol; clear hol hs hs'
        go_wp2_with fail
        refine (trim_any _ _ _ ((hA.setI k (c : Int) (by omega)).sl (n := k + 1) (by simpa using HE.out.1) (by simpa using HE.out.2.1) (Nat.le_refl _) (by omega))).mono ?_
        rintro e w' ⟨v1, rfl, h1, rfl⟩
        rw [Int.toNat_natCast, HE.out.2.2, Hvb.out, Hva.out, Nat.add_comm] at h1
        go_wp2
        go_ret
        exact ⟨_, rfl, h1, hbl.setCell (Nat.le_refl _) _⟩
  · go_wp2_with (at_make; refine wpList_make_u32 _ rfl _ _ _ rfl 156 Tryz.underlying35 Tryz.infoU32 _ (n + 1) rfl rfl (by omega) (by omega) ?_; intro w0 hA0 hb0 _)
    go_wp2
    go_loopw [6, 26] (fun cy i wr => ∃ k c os, k ≤ n ∧ i = .int .i64 ((k : Nat) : Int) ∧ cy = .int .u64 ((c : Nat) : Int) ∧ Arr wr w.heap.size os ∧ Hid (addInv n k c os ls ms) ∧ Below w.heap.size w wr) (fun _ i _ => n - (intOf i).toNat)
    case atStart => exact ⟨0, 0, _, Nat.zero_le _, rfl, rfl, hA0, Lib.hid (addInv_zero _ _ _), hb0⟩
    case round =>
      obtain ⟨k, c, os, hk, rfl, rfl, hA, Hs, hbl⟩ := hrel
      have ⟨hol, _, hc1, _⟩ := Hs.out
      by_cases hkn : k < n
      · obtain ⟨b1, off, rfl, hbw, hc⟩ := hs (by omega)
        have c1 := (hbl.cell (p := ⟨b1, off + k, none⟩) hbw).trans (hc k hkn)
        have bx := lims_getD Ha.out k
        have by' := lims_getD Hb.out k
        have c3 := hA.cell k (by omega)
        have c4 := hA.frozen k
        have ex : ls.getD k 0 = ls[k]?.getD 0 := rfl
        have ey : ms.getD k 0 = ms[k]?.getD 0 := rfl
        rw [ex] at bx c1
        rw [ey] at by'
        have Ex := Lib.hid ex; clear ex
        have Ey := Lib.hid ey; clear ey
        have Ol := Lib.hid hol; clear hol
        by_cases hkm : k < n'
        · obtain ⟨b2, off2, rfl, hbw2, hc2⟩ := hs' (by omega)
          have c2 := (hbl.cell (p := ⟨b2, off2 + k, none⟩) hbw2).trans (hc2 k hkm)
          rw [Ey.out] at c2
          clear hc hc2 hs hs'
          go_wp2
          go_roundw
          case rel =>
            exact ⟨k + 1, _, _, by omega, by go_num, congrArg (Value.int .u64) (Int.toNat_of_nonneg (by omega)).symm, hA.setI k _ (by omega), Lib.hid (addInv_step Hs.out hkn Ex.out.symm Ey.out.symm Ha.out Hb.out _ (by omega)), hbl.setCell (Nat.le_refl _) _⟩
          case measure => simp [intOf] <;> omega
        · have hz : ms.getD k 0 = 0 := by simp [List.getD, show ms.length ≤ k by have := Hn'.out; omega]
          have Hz := Lib.hid hz
          clear hz hc hs hs'
          go_wp2
          go_roundw
          case rel =>
            exact ⟨k + 1, _, _, by omega, by go_num, congrArg (Value.int .u64) (Int.toNat_of_nonneg (by omega)).symm, hA.setI k _ (by omega), Lib.hid (addInv_step (y := 0) Hs.out hkn Ex.out.symm Hz.out.symm Ha.out Hb.out _ (by omega)), hbl.setCell (Nat.le_refl _) _⟩
          case measure => simp [intOf] <;> omega
      · obtain rfl : k = n := by omega
        have c3 := hA.cell k (by omega)
        have c4 := hA.frozen k
        have HE := Lib.hid (addInv_end Hs.out (by have := Hn.out; omega) (by have := Hn'.out; omega))
        have Ol := Lib.hid hol; clear hol hs hs'
        go_wp2_with fail
        refine (trim_any _ _ _ ((hA.setI k (c : Int) (by omega)).sl (n := k + 1) (by simpa using HE.out.1) (by simpa using HE.out.2.1) (Nat.le_refl _) (by omega))).mono ?_
        rintro e w' ⟨v1, rfl, h1, rfl⟩
        rw [Int.toNat_natCast, HE.out.2.2, Hva.out, Hvb.out] at h1
        go_wp2
        go_ret
        exact ⟨_, rfl, h1, hbl.setCell (Nat.le_refl _) _⟩
end Go.Proofs.YtikglhmabidjoaaGreatDoor
namespace Go.Proofs.YtikglhmabidjoaaGreatDoor
open Go.RowKit Nt
def subInv (n k c : Nat) (os xs ys : List Nat) : Prop :=
  os.length = n ∧ lims os ∧ c ≤ 1 ∧ val (os.take k) + val (ys.take k) = val (xs.take k) + 4294967296 ^ k * c
theorem subInv_zero (n : Nat) (xs ys : List Nat) : subInv n 0 0 (List.replicate n 0) xs ys :=
  ⟨by simp, lims_replicate _, by decide, by simp [val]⟩
theorem subInv_step {n k c x y : Nat} {os xs ys : List Nat} (h : subInv n k c os xs ys) (hk : k < n) (hx : x = xs.getD k 0) (hy : y = ys.getD k 0) (hlx : lims xs) (hly : lims ys) (d o : Int)
    (hd : d + y + c = x + 4294967296 * o) (hd0 : 0 ≤ d) (hd1 : d < 4294967296) (ho : 0 ≤ o) : subInv n (k + 1) o.toNat (os.set k d.toNat) xs ys := by
  obtain ⟨h1, h2, h3, h4⟩ := h
  have b1 := lims_getD hlx k
  have b2 := lims_getD hly k
  refine ⟨by simpa using h1, lims_set h2 _ _ (by omega), by omega, ?_⟩
  rw [val_set_take (by omega), val_take_step xs, val_take_step ys, Nat.pow_succ, ← hx, ← hy]
  have e : 4294967296 ^ k * (d.toNat + y + c) = 4294967296 ^ k * (x + 4294967296 * o.toNat) := by congr 1; omega
  rw [Nat.mul_add, Nat.mul_add, Nat.mul_add, ← Nat.mul_assoc] at e
  omega
theorem subInv_end {n c : Nat} {os xs ys : List Nat} (h : subInv n n c os xs ys) (hn : xs.length ≤ n) (hm : ys.length ≤ n) (hle : val ys ≤ val xs) : lims os ∧ os.length = n ∧ val os = val xs - val ys := by
  obtain ⟨h1, h2, h3, h4⟩ := h
  refine ⟨h2, h1, ?_⟩
  rw [val_take_ge hn, val_take_ge hm, val_take_ge (xs := os) (by omega)] at h4
  have := val_lt h2
  rw [h1] at this
  have hc : c = 0 := by
    rcases Nat.eq_zero_or_pos c with h | h
    · exact h
    · have : c = 1 := by omega
      subst this; omega
  subst hc; omega
def subErr (a b : Nat) : Int := if a < b then 2 else 0
theorem subErr_lt {a b : Nat} (h : a < b) : subErr a b = 2 := by simp [subErr, h]
theorem subErr_le {a b : Nat} (h : b ≤ a) : subErr a b = 0 := by simp [subErr, show ¬ a < b by omega]
set_option maxHeartbeats 400000 in
theorem sub_no (v v' : Value) (xs ys : List Nat) (w : World) (h : Sl w v xs) (h' : Sl w v' ys) (hlt : val xs < val ys) :
    Calls Tryz.prog 181 #[v, v'] w (Ret w (NumE 0 2)) := by
  go_enter Tryz.func181, Tryz.ntmps181
  go_wp2_with fail
  refine (trim_any _ xs _ h).mono ?_
  rintro e w' ⟨v1, rfl, h1, rfl⟩
  go_wp2_with fail
  refine (trim_any _ ys _ h').mono ?_
  rintro e w' ⟨v2, rfl, h2, rfl⟩
  clear h h'
  go_wp2_with fail
  refine (cmp_any _ _ _ _ _ h1 h2).mono ?_
  rintro e wc ⟨v3, rfl, h3, hbc⟩
  unfold Val at h3
  subst h3
  have h1 := h1.below hbc
  have h2 := h2.below hbc
  rw [val_limbs, val_limbs]
  rw [cmpN_lt hlt]
  clear hlt
  go_wp2
  go_ret2
  exact ⟨_, rfl, ⟨_, rfl, by rw [limbs_zero]; exact Sl.nil _⟩, hbc⟩
theorem wrap_u64 (z : Int) : IntKind.u64.wrap z = z % 18446744073709551616 := rfl
set_option maxHeartbeats 1000000 in
theorem sub_yes (v v' : Value) (xs ys : List Nat) (w : World) (h : Sl w v xs) (h' : Sl w v' ys) (hx : xs.length ≤ 4294967296) (hle : val ys ≤ val xs) :
    Calls Tryz.prog 181 #[v, v'] w (Ret w (NumE (val xs - val ys) 0)) := by
  have hla := sz_val h.lims
  go_enter Tryz.func181, Tryz.ntmps181
  go_wp2_with fail
  refine (trim_any _ xs _ h).mono ?_
  rintro e w' ⟨v1, rfl, h1, rfl⟩
  go_wp2_with fail
  refine (trim_any _ ys _ h').mono ?_
  rintro e w' ⟨v2, rfl, h2, rfl⟩
  clear h h'
  go_wp2_with fail
  refine (cmp_any _ _ _ _ _ h1 h2).mono ?_
  rintro e wc ⟨v3, rfl, h3, hbc⟩
  unfold Val at h3
  subst h3
  have h1 := h1.below hbc
  have h2 := h2.below hbc
  rw [val_limbs, val_limbs]
  have hlen := sz_mono hle
  unfold sz at hla hlen
  have hc0 : 0 ≤ cmpN (val xs) (val ys) := by rcases Nat.lt_or_ge (val ys) (val xs) with h | h; · rw [cmpN_gt h]; decide
                                              · rw [cmpN_eq (by omega)]; decide
  have Hva := Lib.hid (val_limbs (val xs))
  have Hvb := Lib.hid (val_limbs (val ys))
  generalize val xs = a at *
  generalize val ys = b at *
  have hcd : decide (cmpN a b < 0) = false := by simp; exact hc0
  generalize cmpN a b = cm at *
  have Hle := Lib.hid hle
  generalize limbs a = ls at *
  generalize limbs b = ms at *
  obtain ⟨ad, n, cap, rfl, hn, hnc, hm, ha, hs⟩ := h1
  obtain ⟨ad', n', cap', rfl, hn', hnc', hm', hb, hs'⟩ := h2
  have hn4 : n ≤ 4294967296 := by omega
  have Hlen : Hid (ms.length ≤ n) := Lib.hid (by omega)
  clear hla hlen hle
  have Hn := Lib.hid hn; clear hn
  have Hn' := Lib.hid hn'; clear hn'
  have Ha := Lib.hid ha; clear ha
  have Hb := Lib.hid hb; clear hb
  go_wp2_with (at_make; refine wpList_make_u32 _ rfl _ _ _ rfl 156 Tryz.underlying35 Tryz.infoU32 _ n rfl rfl (by omega) (by omega) ?_; intro w0 hA0 hb0 _)
  go_wp2
  go_loopw [7, 24] (fun cy i wr => ∃ k c os, k ≤ n ∧ i = .int .i64 ((k : Nat) : Int) ∧ cy = .int .u64 ((c : Nat) : Int) ∧ Arr wr wc.heap.size os ∧ Hid (subInv n k c os ls ms) ∧ Below wc.heap.size wc wr) (fun _ i _ => n - (intOf i).toNat)
  case atStart => exact ⟨0, 0, _, Nat.zero_le _, rfl, rfl, hA0, Lib.hid (subInv_zero _ _ _), hb0⟩
  case round =>
    obtain ⟨k, c, os, hk, rfl, rfl, hA, Hs, hbl⟩ := hrel
    have ⟨hol, _, hc1, _⟩ := Hs.out
    by_cases hkn : k < n
    · obtain ⟨b1, off, rfl, hbw, hc⟩ := hs (by omega)
      have c1 := (hbl.cell (p := ⟨b1, off + k, none⟩) hbw).trans (hc k hkn)
      have bx := lims_getD Ha.out k
      have by' := lims_getD Hb.out k
      have c3 := hA.cell k (by omega)
      have c4 := hA.frozen k
      have ex : ls.getD k 0 = ls[k]?.getD 0 := rfl
      have ey : ms.getD k 0 = ms[k]?.getD 0 := rfl
      rw [ex] at bx c1
      rw [ey] at by'
      have Ex := Lib.hid ex; clear ex
      have Ey := Lib.hid ey; clear ey
      have Ol := Lib.hid hol; clear hol
      by_cases hkm : k < n'
      · obtain ⟨b2, off2, rfl, hbw2, hc2⟩ := hs' (by omega)
        have c2 := (hbl.cell (p := ⟨b2, off2 + k, none⟩) hbw2).trans (hc2 k hkm)
        rw [Ey.out] at c2
        clear hc hc2 hs hs'
        go_wp2
        go_roundw
        case rel =>
          exact ⟨k + 1, _, _, by omega, by go_num, congrArg (Value.int .u64) (Int.toNat_of_nonneg (by simp only [wrap_u64]; omega)).symm, hA.setI k _ (by omega), Lib.hid (subInv_step Hs.out hkn Ex.out.symm Ey.out.symm Ha.out Hb.out _ _ (by simp only [wrap_u64]; omega) (by omega) (by omega) (by simp only [wrap_u64]; omega)), hbl.setCell (Nat.le_refl _) _⟩
        case measure => simp [intOf] <;> omega
      · have hz : ms.getD k 0 = 0 := by simp [List.getD, show ms.length ≤ k by have := Hn'.out; omega]
        have Hz := Lib.hid hz
        clear hz hc hs hs'
        go_wp2
        go_roundw
        case rel =>
          exact ⟨k + 1, _, _, by omega, by go_num, congrArg (Value.int .u64) (Int.toNat_of_nonneg (by simp only [wrap_u64]; omega)).symm, hA.setI k _ (by omega), Lib.hid (subInv_step (y := 0) Hs.out hkn Ex.out.symm Hz.out.symm Ha.out Hb.out _ _ (by simp only [wrap_u64]; omega) (by omega) (by omega) (by simp only [wrap_u64]; omega)), hbl.setCell (Nat.le_refl _) _⟩
        case measure => simp [intOf] <;> omega
    · obtain rfl : k = n := by omega
      have HE := Lib.hid (subInv_end Hs.out (by have := Hn.out; omega) Hlen.out (by rw [Hva.out, Hvb.out]; exact Hle.out))
      have Ol := Lib.hid hol; clear hol hs hs'
      go_wp2_with fail
      refine (trim_any _ _ _ (hA.sl (n := k) HE.out.1 HE.out.2.1 (Nat.le_refl _) (by omega))).mono ?_
      rintro e w' ⟨v1, rfl, h1, rfl⟩
      rw [HE.out.2.2, Hva.out, Hvb.out] at h1
      go_wp2
      go_ret2
      exact ⟨_, rfl, ⟨_, rfl, h1⟩, hbc.trans (hbl.mono hbc.size)⟩
theorem sub_any (v v' : Value) (xs ys : List Nat) (w : World) (h : Sl w v xs) (h' : Sl w v' ys) (hx : xs.length ≤ 4294967296) :
    Calls Tryz.prog 181 #[v, v'] w (Ret w (NumE (val xs - val ys) (subErr (val xs) (val ys)))) := by
  rcases Nat.lt_or_ge (val xs) (val ys) with hlt | hle
  · rw [subErr_lt hlt, show val xs - val ys = 0 by omega]
    exact sub_no v v' xs ys w h h' hlt
  · rw [subErr_le hle]
    exact sub_yes v v' xs ys w h h' hx hle
end Go.Proofs.YtikglhmabidjoaaGreatDoor
namespace Go.Proofs.YtikglhmabidjoaaGreatDoor
open Go.RowKit Nt
theorem mul_bound {x y : Nat} (hx : x < 4294967296) (hy : y < 4294967296) : (x : Int) * (y : Int) ≤ 18446744065119617025 ∧ 0 ≤ (x : Int) * (y : Int) := by
  have h : x * y ≤ 4294967295 * 4294967295 := Nat.mul_le_mul (by omega) (by omega)
  have h2 : ((x * y : Nat) : Int) = (x : Int) * (y : Int) := Int.natCast_mul x y
  omega
theorem mul_bound' {x y : Nat} (hx : x ≤ 4294967296) (hy : y < 4294967296) : (x : Int) * (y : Int) ≤ 18446744069414584320 ∧ 0 ≤ (x : Int) * (y : Int) := by
  have h : x * y ≤ 4294967296 * 4294967295 := Nat.mul_le_mul hx (by omega)
  have h2 : ((x * y : Nat) : Int) = (x : Int) * (y : Int) := Int.natCast_mul x y
  omega
theorem mulIn_stepI {n m i k c x y o : Nat} {os xs ys : List Nat} (h : mulIn n m i k c os xs ys) (hk : k < m) (hi : i < n) (hx : x = xs.getD i 0) (hy : y = ys.getD k 0) (ho : o = os.getD (i + k) 0)
    (hlx : lims xs) (hly : lims ys) (z : Int) (hz : z = (c : Int) + ((x : Int) * (y : Int) + (o : Int))) : mulIn n m i (k + 1) (z / 4294967296).toNat (os.set (i + k) (z % 4294967296).toNat) xs ys := by
  have e : z = ((c + (x * y + o) : Nat) : Int) := by rw [hz]; simp
  have e1 : (z / 4294967296).toNat = (c + (x * y + o)) / 4294967296 := by omega
  have e2 : (z % 4294967296).toNat = (c + (x * y + o)) % 4294967296 := by omega
  rw [e1, e2]
  exact mulIn_step h hk hi hx hy ho hlx hly _ rfl
set_option maxHeartbeats 400000 in
theorem mul_zero_any (v v' : Value) (xs ys : List Nat) (w : World) (h : Sl w v xs) (h' : Sl w v' ys) (h0 : val xs = 0 ∨ val ys = 0) :
    Calls Tryz.prog 133 #[v, v'] w (Ret w (Num 0)) := by
  go_enter Tryz.func133, Tryz.ntmps133
  go_wp2_with fail
  refine (trim_any _ xs _ h).mono ?_
  rintro e w' ⟨v1, rfl, h1, rfl⟩
  go_wp2_with fail
  refine (trim_any _ ys _ h').mono ?_
  rintro e w' ⟨v2, rfl, h2, rfl⟩
  clear h h'
  obtain ⟨ad, n, cap, rfl, hn, hnc, hm, ha, hs⟩ := h1
  obtain ⟨ad', n', cap', rfl, hn', hnc', hm', hb, hs'⟩ := h2
  by_cases hx : n = 0
  · subst hx
    clear hn hn' hs hs' h0
    go_wp2
    go_ret
    exact ⟨_, rfl, by unfold Num; rw [limbs_zero]; exact Sl.nil _, Below.refl _ _⟩
  · have hne : ((n : Int) == 0) = false := by simp; exact hx
    have hy : n' = 0 := by
      rcases h0 with h0 | h0
      · rw [h0, limbs_zero] at hn; simp at hn; omega
      · rw [h0, limbs_zero] at hn'; simp at hn'; omega
    subst hy
    clear hn hn' hs hs' h0 hx
    go_wp2
    go_ret
    exact ⟨_, rfl, by unfold Num; rw [limbs_zero]; exact Sl.nil _, Below.refl _ _⟩
set_option maxHeartbeats 1000000 in
theorem mul_pos_any (v v' : Value) (xs ys : List Nat) (w : World) (h : Sl w v xs) (h' : Sl w v' ys) (hx : xs.length ≤ 4294967296) (hy : ys.length ≤ 4294967296) (hx0 : 0 < val xs) (hy0 : 0 < val ys) :
    Calls Tryz.prog 133 #[v, v'] w (Ret w (Num (val xs * val ys))) := by
  have hla := sz_val h.lims
  have hlb := sz_val h'.lims
  have hpa := sz_pos hx0
  have hpb := sz_pos hy0
  clear hx0 hy0
  go_enter Tryz.func133, Tryz.ntmps133
  go_wp2_with fail
  refine (trim_any _ xs _ h).mono ?_
  rintro e w' ⟨v1, rfl, h1, rfl⟩
  go_wp2_with fail
  refine (trim_any _ ys _ h').mono ?_
  rintro e w' ⟨v2, rfl, h2, rfl⟩
  clear h h'
  unfold sz at hla hlb hpa hpb
  have Hva := Lib.hid (val_limbs (val xs))
  have Hvb := Lib.hid (val_limbs (val ys))
  generalize val xs = a at *
  generalize val ys = b at *
  generalize limbs a = ls at *
  generalize limbs b = ms at *
  obtain ⟨ad, n, cap, rfl, hn, hnc, hm, ha, hs⟩ := h1
  obtain ⟨ad', n', cap', rfl, hn', hnc', hm', hb, hs'⟩ := h2
  have hn4 : n ≤ 4294967296 := by omega
  have hn4' : n' ≤ 4294967296 := by omega
  have hp : 0 < n := by omega
  have hp' : 0 < n' := by omega
  have hne : ((n : Int) == 0) = false := by simp; omega
  have hne' : ((n' : Int) == 0) = false := by simp; omega
  clear hla hlb hpa hpb
  have Hn := Lib.hid hn; clear hn
  have Hn' := Lib.hid hn'; clear hn'
  have Ha := Lib.hid ha; clear ha
  have Hb := Lib.hid hb; clear hb
  obtain ⟨b1, off, rfl, hbw, hc⟩ := hs hp
  obtain ⟨b2, off2, rfl, hbw2, hc2⟩ := hs' hp'
  have Hc := Lib.hid hc; clear hc hs
  have Hc2 := Lib.hid hc2; clear hc2 hs'
  go_wp2_with (at_make; refine wpList_make_u32 _ rfl _ _ _ rfl 156 Tryz.underlying35 Tryz.infoU32 _ (n + n') rfl rfl (by omega) (by omega) ?_; intro w0 hA0 hb0 _)
  go_wp2
  go_loopw [31] (fun i wr => ∃ k os, k ≤ n ∧ i = .int .i64 ((k : Nat) : Int) ∧ Arr wr w.heap.size os ∧ Hid (mulOut n n' k os ls ms) ∧ Below w.heap.size w wr) (fun i _ => n - (intOf i).toNat)
  case atStart => exact ⟨0, _, Nat.zero_le _, rfl, hA0, Lib.hid (mulOut_zero _ _ _ _), hb0⟩
  case round =>
    obtain ⟨i, os, hi, rfl, hA, Hs, hbl⟩ := hrel
    by_cases hin : i < n
    · have c1 := (hbl.cell (p := ⟨b1, off + i, none⟩) hbw).trans (Hc.out i hin)
      have bx := lims_getD Ha.out i
      have ex : ls.getD i 0 = ls[i]?.getD 0 := rfl
      rw [ex] at bx c1
      have Ex := Lib.hid ex; clear ex
      obtain ⟨wo, rfl⟩ : ∃ wo : World, wo = wr := ⟨_, rfl⟩
      go_wp2
      go_loopw [8, 38] (fun cy j wr => ∃ k c os, k ≤ n' ∧ j = .int .i64 ((k : Nat) : Int) ∧ cy = .int .u64 ((c : Nat) : Int) ∧ Arr wr w.heap.size os ∧ Hid (mulIn n n' i k c os ls ms) ∧ Below w.heap.size w wr) (fun _ j _ => n' - (intOf j).toNat)
      case atStart => exact ⟨0, 0, os, Nat.zero_le _, rfl, rfl, hA, Lib.hid (mulIn_zero Hs.out), hbl⟩
      case round =>
        clear hA Hs hbl c1
        obtain ⟨k, c, os, hk, rfl, rfl, hA, Hs, hbl⟩ := hrel
        have ⟨hol, hos, _, hcb, _⟩ := Hs.out
        have Ol := Lib.hid hol; clear hol
        by_cases hkn : k < n'
        · have c2 := (hbl.cell (p := ⟨b2, off2 + k, none⟩) hbw2).trans (Hc2.out k hkn)
          have by' := lims_getD Hb.out k
          have ey : ms.getD k 0 = ms[k]?.getD 0 := rfl
          rw [ey] at by' c2
          have Ey := Lib.hid ey; clear ey
          have c3 := hA.cell (i + k) (by rw [Ol.out]; omega)
          have c4 := hA.frozen (i + k)
          have bo := lims_getD hos (i + k)
          have eo : os.getD (i + k) 0 = os[i + k]?.getD 0 := rfl
          rw [eo] at bo c3
          have Eo := Lib.hid eo; clear eo
          have hxy := mul_bound bx by'
          clear hos
          go_wp2
          go_roundw
          case rel =>
            exact ⟨k + 1, _, _, by omega, by go_num, congrArg (Value.int .u64) (Int.toNat_of_nonneg (by omega)).symm, hA.setI (i + k) _ (by omega), Lib.hid (mulIn_stepI Hs.out hkn hin Ex.out.symm Ey.out.symm Eo.out.symm Ha.out Hb.out _ rfl), hbl.setCell (Nat.le_refl _) _⟩
          case measure => simp [intOf] <;> omega
        · obtain rfl : k = n' := by omega
          have c3 := hA.cell (i + k) (by rw [Ol.out]; omega)
          have c4 := hA.frozen (i + k)
          have HM := Lib.hid (mulOut_step Hs.out hin (by have := Hn'.out; omega))
          clear hos
          go_wp2
          go_roundw
          case rel => exact ⟨i + 1, _, by omega, by go_num, hA.setI (i + k) (c : Int) (by omega), by rw [Int.toNat_natCast]; exact HM, hbl.setCell (Nat.le_refl _) _⟩
          case measure => simp [intOf] <;> omega
    · obtain rfl : i = n := by omega
      have HE := Lib.hid (mulOut_end Hs.out (by have := Hn.out; omega))
      go_wp2_with fail
      refine (trim_any _ _ _ (hA.sl (n := i + n') HE.out.1 HE.out.2.1 (Nat.le_refl _) (by omega))).mono ?_
      rintro e w' ⟨v1, rfl, h1, rfl⟩
      rw [HE.out.2.2, Hva.out, Hvb.out] at h1
      go_wp2
      go_ret
      exact ⟨_, rfl, h1, hbl⟩
theorem mul_any (v v' : Value) (xs ys : List Nat) (w : World) (h : Sl w v xs) (h' : Sl w v' ys) (hx : xs.length ≤ 4294967296) (hy : ys.length ≤ 4294967296) :
    Calls Tryz.prog 133 #[v, v'] w (Ret w (Num (val xs * val ys))) := by
  rcases Nat.eq_zero_or_pos (val xs) with h0 | h0
  · have := mul_zero_any v v' xs ys w h h' (Or.inl h0)
    rwa [h0, Nat.zero_mul]
  · rcases Nat.eq_zero_or_pos (val ys) with h1 | h1
    · have := mul_zero_any v v' xs ys w h h' (Or.inr h1)
      rwa [h1, Nat.mul_zero]
    · exact mul_pos_any v v' xs ys w h h' hx hy h0 h1
end Go.Proofs.YtikglhmabidjoaaGreatDoor
namespace Go.Proofs.YtikglhmabidjoaaGreatDoor
open Go.RowKit Nt
theorem or_low {o m s : Nat} (ho : o < 2 ^ s) : o ||| (m * 2 ^ s) = o + m * 2 ^ s := by
  have := Nat.two_pow_add_eq_or_of_lt ho m
  rw [Nat.or_comm, Nat.mul_comm m, ← this, Nat.add_comm]
theorem pow_split {s k : Nat} (h : s ≤ k) : 2 ^ k = 2 ^ s * 2 ^ (k - s) := by rw [← Nat.pow_add]; congr 1; omega
theorem mod_shift {x s : Nat} (hs : s ≤ 32) : (x * 2 ^ s) % 4294967296 = (x % 2 ^ (32 - s)) * 2 ^ s := by
  have e : 4294967296 = 2 ^ (32 - s) * 2 ^ s := by rw [Nat.mul_comm, ← pow_split hs]
  rw [e, Nat.mul_mod_mul_right]
theorem shl_bound {x s : Nat} (hx : x < 4294967296) (hs : s ≤ 32) : x * 2 ^ s < 18446744073709551616 := by
  have h1 : 2 ^ s ≤ 2 ^ 32 := Nat.pow_le_pow_right (by decide) hs
  have h2 : x * 2 ^ s ≤ 4294967295 * 2 ^ 32 := Nat.mul_le_mul (by omega) h1
  have e : 2 ^ 32 = 4294967296 := by decide
  rw [e] at h2; omega
theorem wrap_shl {x s : Nat} (hx : x < 4294967296) (hs : s ≤ 32) : IntKind.u64.wrap ((x : Int) * 2 ^ s) = ((x * 2 ^ s : Nat) : Int) := by
  have h := shl_bound hx hs
  have e : ((x * 2 ^ s : Nat) : Int) = (x : Int) * 2 ^ s := by simp
  rw [wrap_u64, ← e]; omega
theorem left_or {o x s : Nat} (ho : o < 2 ^ s) (hx : x < 4294967296) (hs : s ≤ 31) :
    bits .or .u32 (o : Int) (IntKind.u64.wrap ((x : Int) * 2 ^ s) % 4294967296) = ((o + (x * 2 ^ s) % 4294967296 : Nat) : Int) := by
  rw [wrap_shl hx (by omega)]
  have e : ((x * 2 ^ s : Nat) : Int) % 4294967296 = (((x * 2 ^ s) % 4294967296 : Nat) : Int) := by omega
  have h1 : 2 ^ s ≤ 2 ^ 31 := Nat.pow_le_pow_right (by decide) hs
  have e1 : 2 ^ 31 = 2147483648 := by decide
  rw [e, u32_or_nat _ _ (by omega) (Nat.mod_lt _ (by decide)), mod_shift (by omega), or_low ho]
def leftInv (n i s : Nat) (os xs : List Nat) : Prop :=
  os.length = n + 1 ∧ lims os ∧ os.getD i 0 < 2 ^ s ∧ val (os.take (i + 1)) = 2 ^ s * val (xs.take i)
theorem leftInv_zero (n s : Nat) (xs : List Nat) : leftInv n 0 s (List.replicate (n + 1) 0) xs :=
  ⟨by simp, lims_replicate _, by rw [getD_replicate]; exact Nat.pow_pos (by decide), by simp [val]⟩
theorem leftInv_step {n i s x : Nat} {os xs : List Nat} (h : leftInv n i s os xs) (hi : i < n) (hs : s ≤ 31) (hx : x = xs.getD i 0) (hlx : lims xs) :
    leftInv n (i + 1) s ((os.set i (os.getD i 0 + (x * 2 ^ s) % 4294967296)).set (i + 1) ((x * 2 ^ s) / 4294967296)) xs := by
  obtain ⟨h1, h2, h3, h4⟩ := h
  have bx := lims_getD hlx i
  rw [← hx] at bx
  have hp : 0 < 2 ^ s := Nat.pow_pos (by decide)
  have hlo : os.getD i 0 + (x * 2 ^ s) % 4294967296 < 4294967296 := by
    rw [mod_shift (by omega)]
    have hm : x % 2 ^ (32 - s) < 2 ^ (32 - s) := Nat.mod_lt _ (Nat.pow_pos (by decide))
    have h5 : (x % 2 ^ (32 - s) + 1) * 2 ^ s ≤ 2 ^ (32 - s) * 2 ^ s := Nat.mul_le_mul_right _ hm
    rw [Nat.mul_comm (2 ^ (32 - s)), ← pow_split (show s ≤ 32 by omega), Nat.add_mul] at h5
    have e1 : 2 ^ 32 = 4294967296 := by decide
    omega
  have hhi : (x * 2 ^ s) / 4294967296 < 2 ^ s := by
    apply Nat.div_lt_of_lt_mul
    exact Nat.mul_lt_mul_of_pos_right bx hp
  have h31 : 2 ^ s ≤ 2 ^ 31 := Nat.pow_le_pow_right (by decide) hs
  have e31 : 2 ^ 31 = 2147483648 := by decide
  refine ⟨by simpa using h1, lims_set (lims_set h2 _ _ hlo) _ _ (by omega), ?_, ?_⟩
  · rw [getD_set_eq (by simp; omega)]; exact hhi
  · rw [val_set_take (by simp; omega), val_set_take (by omega), val_take_step xs, ← hx]
    rw [val_take_step os] at h4
    have e2 : 2 ^ s * (4294967296 ^ i * x) = 4294967296 ^ i * (x * 2 ^ s) := by grind
    have e3 : 4294967296 ^ i * (x * 2 ^ s) = 4294967296 ^ i * ((x * 2 ^ s) % 4294967296) + 4294967296 ^ (i + 1) * ((x * 2 ^ s) / 4294967296) := by
      rw [Nat.pow_succ, Nat.mul_assoc, ← Nat.mul_add]; congr 1; omega
    rw [Nat.mul_add (2 ^ s), e2, e3, Nat.mul_add]
    omega
theorem leftInv_end {n s : Nat} {os xs : List Nat} (h : leftInv n n s os xs) (hn : xs.length ≤ n) : lims os ∧ os.length = n + 1 ∧ val os = 2 ^ s * val xs := by
  obtain ⟨h1, h2, h3, h4⟩ := h
  rw [val_take_ge hn, val_take_ge (by omega)] at h4
  exact ⟨h2, h1, h4⟩
def Lefted (w : World) (xs : List Nat) (s : Nat) (w' : World) (v : Value) : Prop :=
  ∃ b os, v = .slice (some ⟨b, 0, none⟩) (xs.length + 1) (xs.length + 1) ∧ w.heap.size ≤ b ∧ Arr w' b os ∧ lims os ∧ os.length = xs.length + 1 ∧ val os = 2 ^ s * val xs
set_option maxHeartbeats 1000000 in
theorem left_any (v : Value) (xs : List Nat) (s : Nat) (w : World) (h : Sl w v xs) (hx : xs.length ≤ 8589934592) (hs31 : s ≤ 31) :
    Calls Tryz.prog 205 #[v, .int .i64 (s : Int)] w (Ret w (Lefted w xs s)) := by
  obtain ⟨ad, n, cap, rfl, hn, hnc, hm, ha, hs⟩ := h
  have hn4 : n ≤ 8589934592 := by omega
  have Hn := Lib.hid hn; clear hn hx
  have Ha := Lib.hid ha; clear ha
  go_enter Tryz.func205, Tryz.ntmps205
  go_wp2_with (at_make; refine wpList_make_u32 _ rfl _ _ _ rfl 156 Tryz.underlying35 Tryz.infoU32 _ (n + 1) rfl rfl (by omega) (by omega) ?_; intro w0 hA0 hb0 _)
  go_wp2
  go_loopw [15] (fun i wr => ∃ k os, k ≤ n ∧ i = .int .i64 ((k : Nat) : Int) ∧ Arr wr w.heap.size os ∧ Hid (leftInv n k s os xs) ∧ Below w.heap.size w wr) (fun i _ => n - (intOf i).toNat)
  case atStart => exact ⟨0, _, Nat.zero_le _, rfl, hA0, Lib.hid (leftInv_zero _ _ _), hb0⟩
  case round =>
    obtain ⟨i, os, hi, rfl, hA, Hs, hbl⟩ := hrel
    by_cases hin : i < n
    · obtain ⟨b1, off, rfl, hbw, hc⟩ := hs (by omega)
      have c1 := (hbl.cell (p := ⟨b1, off + i, none⟩) hbw).trans (hc i hin)
      have ⟨hol, hos, hob, _⟩ := Hs.out
      have bx := lims_getD Ha.out i
      have HO : Hid (bits .or .u32 ((os[i]?.getD 0 : Nat) : Int) (IntKind.u64.wrap (((xs[i]?.getD 0 : Nat) : Int) * 2 ^ s) % 4294967296) = ((os.getD i 0 + (xs.getD i 0 * 2 ^ s) % 4294967296 : Nat) : Int)) := Lib.hid (left_or hob bx hs31)
      have HW : Hid (IntKind.u64.wrap (((xs[i]?.getD 0 : Nat) : Int) * 2 ^ s) / 4294967296 % 4294967296 = (((xs.getD i 0 * 2 ^ s) / 4294967296 : Nat) : Int)) := Lib.hid (by
        have e1 := wrap_shl bx (show s ≤ 32 by omega)
        have e2 := shl_bound bx (show s ≤ 32 by omega)
        have e3 : IntKind.u64.wrap (((xs[i]?.getD 0 : Nat) : Int) * 2 ^ s) = ((xs.getD i 0 * 2 ^ s : Nat) : Int) := e1
        rw [e3]; omega)
      have ex : xs.getD i 0 = xs[i]?.getD 0 := rfl
      rw [ex] at bx c1
      have Ex := Lib.hid ex; clear ex
      have c3 := hA.cell i (by omega)
      have c4 := hA.frozen i
      have c5 := hA.cell (i + 1) (by omega)
      have c6 := hA.frozen (i + 1)
      have Ol := Lib.hid hol; clear hol hos hob hc hs
      go_wp2
      go_roundw
      case rel =>
        refine ⟨i + 1, _, by omega, by go_num, ?_, Lib.hid (leftInv_step Hs.out hin hs31 rfl Ha.out), (hbl.setCell (Nat.le_refl _) _).setCell (Nat.le_refl _) _⟩
        rw [HO.out, HW.out]
        exact (hA.set i _).set (i + 1) _
      case measure => simp [intOf] <;> omega
    · obtain rfl : i = n := by omega
      have HE := Lib.hid (leftInv_end Hs.out (by have := Hn.out; omega))
      go_wp2
      go_ret
      refine ⟨_, rfl, ⟨w.heap.size, os, ?_, Nat.le_refl _, hA, HE.out.1, ?_, HE.out.2.2⟩, hbl⟩
      · rw [Hn.out]; rfl
      · rw [Hn.out]; exact HE.out.2.1
end Go.Proofs.YtikglhmabidjoaaGreatDoor
