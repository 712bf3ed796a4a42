/- Walks over the reference of package natural, fourth part: shl, shr, Shl, Shr. -/
import Derived.Test.YtfkjhaniglmejaaRefB
namespace Go.Proofs.Ytfkjhaniglmejaa
open Go.RowKit Nt

/-- The reference's left shift behind k rounds. -/
def rshlInv (q r k c : Nat) (os xs : List Nat) : Prop := os.length = q + k ∧ lims os ∧ c < 2 ^ r ∧ val os + 4294967296 ^ (q + k) * c = 4294967296 ^ q * (2 ^ r * val (xs.take k))
theorem rshlInv_zero (q r : Nat) (xs : List Nat) : rshlInv q r 0 0 (List.replicate q 0) xs :=
  ⟨by simp, lims_replicate _, Nat.pow_pos (by decide), by simp [val, val_replicate]⟩
theorem rshlInv_step {q r k c x : Nat} {os xs : List Nat} (h : rshlInv q r k c os xs) (hx : lims xs) (he : x = xs.getD k 0) :
    rshlInv q r (k + 1) ((c + x * 2 ^ r) / 4294967296) (os ++ [(c + x * 2 ^ r) % 4294967296]) xs := by
  obtain ⟨h1, h2, h3, h4⟩ := h
  have bx := lims_getD hx k
  rw [← he] at bx
  refine ⟨by simp [h1]; omega, lims_append h2 (lims_cons (by omega) lims_nil), ?_, ?_⟩
  · apply Nat.div_lt_of_lt_mul
    have h5 : (x + 1) * 2 ^ r ≤ 4294967296 * 2 ^ r := Nat.mul_le_mul_right _ bx
    rw [Nat.add_mul] at h5; omega
  · rw [val_snoc, h1, val_take_step xs, ← he]
    have e1 : 4294967296 ^ q * (2 ^ r * (val (xs.take k) + 4294967296 ^ k * x)) = 4294967296 ^ q * (2 ^ r * val (xs.take k)) + 4294967296 ^ (q + k) * (x * 2 ^ r) := by
      rw [Nat.pow_add]; grind
    have e2 : 4294967296 ^ (q + (k + 1)) * ((c + x * 2 ^ r) / 4294967296) = 4294967296 ^ (q + k) * (4294967296 * ((c + x * 2 ^ r) / 4294967296)) := by
      rw [← Nat.add_assoc, Nat.pow_succ, Nat.mul_assoc]
    have e3 : 4294967296 ^ (q + k) * ((c + x * 2 ^ r) % 4294967296) + 4294967296 ^ (q + k) * (4294967296 * ((c + x * 2 ^ r) / 4294967296)) = 4294967296 ^ (q + k) * c + 4294967296 ^ (q + k) * (x * 2 ^ r) := by
      rw [← Nat.mul_add, ← Nat.mul_add]; congr 1; omega
    rw [e1, e2]; omega
theorem rshlInv_end {q r n c K : Nat} {os xs : List Nat} (h : rshlInv q r n c os xs) (hr : r ≤ 31) (hn : xs.length ≤ n) (hK : K = 32 * q + r) : lims (os ++ [c]) ∧ (os ++ [c]).length = q + n + 1 ∧ val (os ++ [c]) = val xs * 2 ^ K := by
  obtain ⟨h1, h2, h3, h4⟩ := h
  have h31 : 2 ^ r ≤ 2 ^ 31 := Nat.pow_le_pow_right (by decide) hr
  have e31 : 2 ^ 31 = 2147483648 := by decide
  refine ⟨lims_append h2 (lims_cons (by omega) lims_nil), by simp [h1], ?_⟩
  rw [val_snoc, h1, h4, val_take_ge hn, hK, Nat.pow_add, Nat.pow_mul]
  have e32 : (2 : Nat) ^ 32 = 4294967296 := by decide
  rw [e32]; grind

theorem or_shl {c x r : Nat} (hc : c < 2 ^ r) (hx : x < 4294967296) (hr : r ≤ 31) : bits .or .u64 (c : Int) (IntKind.u64.wrap ((x : Int) * 2 ^ r)) = ((c + x * 2 ^ r : Nat) : Int) ∧ c + x * 2 ^ r < 18446744073709551616 := by
  have h31 : 2 ^ r ≤ 2 ^ 31 := Nat.pow_le_pow_right (by decide) hr
  have e31 : 2 ^ 31 = 2147483648 := by decide
  have h2 : x * 2 ^ r ≤ 4294967295 * 2 ^ 31 := Nat.mul_le_mul (by omega) h31
  rw [wrap_shl hx (by omega), u64_or_nat _ _ (by omega) (shl_bound hx (by omega)), or_low hc]
  exact ⟨rfl, by omega⟩

set_option maxHeartbeats 1000000 in
theorem rshl_any (v : Value) (xs : List Nat) (K : Nat) (w : World) (h : Sl w v xs) (hxl : xs.length ≤ 4294967296) (hK : K ≤ 1048576) :
    Calls Try.prog 110 #[v, .int .i64 (K : Int)] w (Ret w (Num (val xs * 2 ^ K))) := by
  have Hx := Lib.hid h.lims
  obtain ⟨ad, n, cap, rfl, hn, -, -, -, hs⟩ := h
  have hb : n ≤ 4294967296 := by omega
  have Hn := Lib.hid hn
  obtain ⟨q, hq⟩ : ∃ q, q = K / 32 := ⟨_, rfl⟩
  obtain ⟨r, hr⟩ : ∃ r, r = K % 32 := ⟨_, rfl⟩
  have e1 : ((K : Int) / 32) = (q : Int) := by omega
  have e2 : ((K : Int) % 32) = (r : Int) := by omega
  have hqk : q ≤ 32768 := by omega
  have hr31 : r ≤ 31 := by omega
  have HK2 : Hid (K = 32 * q + r) := Lib.hid (by omega)
  clear hn hxl hq hr
  go_enter Try.func110, Try.ntmps110
  go_wp2_with (at_make; refine wpList_makeown_u32 _ rfl _ _ _ rfl 64 Try.underlying22 Try.infoU32 _ q rfl rfl (by omega) (by omega) ?_; intro w0 v0 h0 hb0)
  go_wp2_with fail
  go_loopw [5, 6, 7] (fun o cy i wr => ∃ (k c : Nat) (os : List Nat), k ≤ n ∧ i = .int .i64 (k : Int) ∧ cy = .int .u64 (c : Int) ∧ Hid (OwnU wr w.heap.size 64 o os) ∧ Hid (rshlInv q r k c os xs) ∧ Hid (Below w.heap.size w wr)) (fun _ _ i _ => n - (intOf i).toNat)
  case atStart => exact ⟨0, 0, _, by omega, rfl, rfl, Lib.hid h0, Lib.hid (rshlInv_zero _ _ _), Lib.hid hb0⟩
  case round =>
    obtain ⟨k, c, os, hk, rfl, rfl, HO, Hs, Hbl⟩ := hrel
    have Hosl : Hid (os.length ≤ 1099511627776) := Lib.hid (by have := Hs.out.1; omega)
    have Hc : Hid (c < 2147483648) := Lib.hid (by
      have h1 := Hs.out.2.2.1
      have h31 : 2 ^ r ≤ 2 ^ 31 := Nat.pow_le_pow_right (by decide) hr31
      have e31 : 2 ^ 31 = 2147483648 := by decide
      omega)
    by_cases hkn : k < n
    · obtain ⟨b1, off, rfl, hbw, hc⟩ := hs (by omega)
      have c1 := (Hbl.out.cell (p := ⟨b1, off + k, none⟩) hbw).trans (hc k hkn)
      obtain ⟨x, hx⟩ : ∃ x, x = xs.getD k 0 := ⟨_, rfl⟩
      have bx := lims_getD Hx.out k
      rw [← hx] at c1 bx
      have Hx' := Lib.hid hx; clear hx hc hs
      have hO := or_shl Hs.out.2.2.1 bx hr31
      have HST := Lib.hid (rshlInv_step Hs.out Hx.out Hx'.out)
      obtain ⟨Z, hZ⟩ : ∃ Z, Z = c + x * 2 ^ r := ⟨_, rfl⟩
      rw [← hZ] at hO HST
      obtain ⟨hO1, hO2⟩ := hO
      clear hZ
      go_wp2_with (at_builtin; refine wpList_push_u32 _ rfl _ _ _ _ rfl 64 Try.underlying22 Try.underlying22 Try.infoU32 w.heap.size _ os rfl (HO.out.below ((Below.refl _ _).alloc (Nat.le_refl _) _) (Nat.le_refl _)) _ 1 ((Z : Int) % 4294967296) rfl (by simp) (by omega) Hosl.out (by have := Hbl.out.size; simp; omega) ?_; intro v3 w3 h3 hb3)
      go_wp2
      go_roundw
      case rel =>
        exact ⟨k + 1, _, _, by omega, by go_num, congrArg (Value.int .u64) (Int.natCast_ediv Z 4294967296).symm, Lib.hid h3, Lib.hid (by rw [show ((Z : Int) % 4294967296).toNat = Z % 4294967296 by omega]; exact HST.out), Lib.hid ((Hbl.out.alloc Hbl.out.size _).trans hb3)⟩
      case measure => simp [intOf] <;> omega
    · obtain rfl : k = n := by omega
      have HE := Lib.hid (rshlInv_end Hs.out hr31 (by have := Hn.out; omega) HK2.out)
      have hcb := Hc.out
      clear hs
      go_wp2_with (at_builtin; refine wpList_push_u32 _ rfl _ _ _ _ rfl 64 Try.underlying22 Try.underlying22 Try.infoU32 w.heap.size _ os rfl (HO.out.below ((Below.refl _ _).alloc (Nat.le_refl _) _) (Nat.le_refl _)) _ 1 (c : Int) rfl (by simp) (by omega) Hosl.out (by have := Hbl.out.size; simp; omega) ?_; intro v3 w3 h3 hb3)
      rw [Int.toNat_natCast] at h3
      have HB := Lib.hid ((Hbl.out.alloc Hbl.out.size _).trans hb3)
      clear hb3
      go_wp2_with fail
      refine (rmake_any _ _ _ (h3.sl HE.out.1 (by rw [HE.out.2.1]; omega))).mono ?_
      rintro e w4 ⟨v4, rfl, h4, hb4⟩
      rw [HE.out.2.2] at h4
      have HB2 := HB.out.trans (hb4.mono HB.out.size)
      clear hb4
      go_wp2
      go_ret
      exact ⟨_, rfl, h4, HB2⟩

/-- The reference's right shift behind k rounds; M is the result. -/
def rshrInv (k M : Nat) (os : List Nat) : Prop := os.length = k ∧ lims os ∧ val os = M % 4294967296 ^ k
theorem rshrInv_zero (M : Nat) : rshrInv 0 M [] := ⟨rfl, lims_nil, by simp [val, Nat.mod_one]⟩
theorem rshrInv_step {k M d : Nat} {os : List Nat} (h : rshrInv k M os) (hd : d = M / 4294967296 ^ k % 4294967296) : rshrInv (k + 1) M (os ++ [d]) := by
  obtain ⟨h1, h2, h3⟩ := h
  refine ⟨by simp [h1], lims_append h2 (lims_cons (by omega) lims_nil), ?_⟩
  rw [val_snoc, h1, h3, hd, Nat.mod_pow_succ]

theorem rshr_digit {xs : List Nat} (h : lims xs) {q j r K : Nat} (hj : q + j < xs.length) (hr : r ≤ 31) (hK : K = 32 * q + r) :
    (xs.getD (q + j) 0 + 4294967296 * xs.getD (q + j + 1) 0) / 2 ^ r % 4294967296 = val xs / 2 ^ K / 4294967296 ^ j % 4294967296 := by
  have e := shr_digit (zs := xs.drop q) (lims_drop h q) (i := j) (r := r) (by simp; omega) hr
  have e1 : (xs.drop q).getD j 0 = xs.getD (q + j) 0 := by simp [List.getD]
  have e2 : (xs.drop q).getD (j + 1) 0 = xs.getD (q + j + 1) 0 := by simp [List.getD, Nat.add_assoc]
  rw [e1, e2, val_drop h q (by omega)] at e
  rw [e, hK, Nat.pow_add, Nat.pow_mul]
  have e32 : (2 : Nat) ^ 32 = 4294967296 := by decide
  rw [e32, Nat.div_div_eq_div_mul (val xs)]

theorem rshrInv_end {q n K r : Nat} {os xs : List Nat} (h : rshrInv (n - q) (val xs / 2 ^ K) os) (hx : lims xs) (hn : xs.length = n) (hK : K = 32 * q + r) : lims os ∧ val os = val xs / 2 ^ K := by
  obtain ⟨h1, h2, h3⟩ := h
  refine ⟨h2, ?_⟩
  rw [h3]
  apply Nat.mod_eq_of_lt
  have e32 : (2 : Nat) ^ 32 = 4294967296 := by decide
  have hl := val_lt hx
  rw [hn] at hl
  rw [hK, Nat.pow_add, Nat.pow_mul, e32, ← Nat.div_div_eq_div_mul]
  apply Nat.lt_of_le_of_lt (Nat.div_le_self _ _)
  apply Nat.div_lt_of_lt_mul
  rw [← Nat.pow_add]
  exact Nat.lt_of_lt_of_le hl (Nat.pow_le_pow_right (by decide) (by omega))

theorem cell_new1 (w : World) (v : Value) (e : TypeId) : (w.alloc (.cells #[v] e)).cell? ⟨w.heap.size, 0, none⟩ = some v := by simp
theorem base_alloc {B : Nat} {w : World} (h : B ≤ w.heap.size) (o : Obj) : B ≤ (w.alloc o).heap.size := by simp; omega

end Go.Proofs.Ytfkjhaniglmejaa
