/- Walks over package natural, fifth part: left, Shl, Shr. -/
import Derived.Test.YtfkjhaniglmejaaNatE
namespace Go.Proofs.Ytfkjhaniglmejaa
open Go.RowKit Nt

theorem or_low {o m s : Nat} (ho : o < 2 ^ s) : o ||| (m * 2 ^ s) = o + m * 2 ^ s := by
  have := Nat.two_pow_add_eq_or_of_lt ho m
  rw [Nat.or_comm, Nat.mul_comm m, ← this, Nat.add_comm]

theorem pow_split {s k : Nat} (h : s ≤ k) : 2 ^ k = 2 ^ s * 2 ^ (k - s) := by rw [← Nat.pow_add]; congr 1; omega

theorem mod_shift {x s : Nat} (hs : s ≤ 32) : (x * 2 ^ s) % 4294967296 = (x % 2 ^ (32 - s)) * 2 ^ s := by
  have e : 4294967296 = 2 ^ (32 - s) * 2 ^ s := by rw [Nat.mul_comm, ← pow_split hs]
  rw [e, Nat.mul_mod_mul_right]

theorem shl_bound {x s : Nat} (hx : x < 4294967296) (hs : s ≤ 32) : x * 2 ^ s < 18446744073709551616 := by
  have h1 : 2 ^ s ≤ 2 ^ 32 := Nat.pow_le_pow_right (by decide) hs
  have h2 : x * 2 ^ s ≤ 4294967295 * 2 ^ 32 := Nat.mul_le_mul (by omega) h1
  have e : 2 ^ 32 = 4294967296 := by decide
  rw [e] at h2; omega

theorem wrap_shl {x s : Nat} (hx : x < 4294967296) (hs : s ≤ 32) : IntKind.u64.wrap ((x : Int) * 2 ^ s) = ((x * 2 ^ s : Nat) : Int) := by
  have h := shl_bound hx hs
  have e : ((x * 2 ^ s : Nat) : Int) = (x : Int) * 2 ^ s := by simp
  rw [wrap_u64, ← e]; omega

theorem left_or {o x s : Nat} (ho : o < 2 ^ s) (hx : x < 4294967296) (hs : s ≤ 31) :
    bits .or .u32 (o : Int) (IntKind.u64.wrap ((x : Int) * 2 ^ s) % 4294967296) = ((o + (x * 2 ^ s) % 4294967296 : Nat) : Int) := by
  rw [wrap_shl hx (by omega)]
  have e : ((x * 2 ^ s : Nat) : Int) % 4294967296 = (((x * 2 ^ s) % 4294967296 : Nat) : Int) := by omega
  have h1 : 2 ^ s ≤ 2 ^ 31 := Nat.pow_le_pow_right (by decide) hs
  have e1 : 2 ^ 31 = 2147483648 := by decide
  rw [e, u32_or_nat _ _ (by omega) (Nat.mod_lt _ (by decide)), mod_shift (by omega), or_low ho]

/-- What has been written of a left shift behind i rounds. -/
def leftInv (n i s : Nat) (os xs : List Nat) : Prop :=
  os.length = n + 1 ∧ lims os ∧ os.getD i 0 < 2 ^ s ∧ val (os.take (i + 1)) = 2 ^ s * val (xs.take i)

theorem leftInv_zero (n s : Nat) (xs : List Nat) : leftInv n 0 s (List.replicate (n + 1) 0) xs :=
  ⟨by simp, lims_replicate _, by rw [getD_replicate]; exact Nat.pow_pos (by decide), by simp [val]⟩

theorem leftInv_step {n i s x : Nat} {os xs : List Nat} (h : leftInv n i s os xs) (hi : i < n) (hs : s ≤ 31) (hx : x = xs.getD i 0) (hlx : lims xs) :
    leftInv n (i + 1) s ((os.set i (os.getD i 0 + (x * 2 ^ s) % 4294967296)).set (i + 1) ((x * 2 ^ s) / 4294967296)) xs := by
  obtain ⟨h1, h2, h3, h4⟩ := h
  have bx := lims_getD hlx i
  rw [← hx] at bx
  have hp : 0 < 2 ^ s := Nat.pow_pos (by decide)
  have hlo : os.getD i 0 + (x * 2 ^ s) % 4294967296 < 4294967296 := by
    rw [mod_shift (by omega)]
    have hm : x % 2 ^ (32 - s) < 2 ^ (32 - s) := Nat.mod_lt _ (Nat.pow_pos (by decide))
    have h5 : (x % 2 ^ (32 - s) + 1) * 2 ^ s ≤ 2 ^ (32 - s) * 2 ^ s := Nat.mul_le_mul_right _ hm
    rw [Nat.mul_comm (2 ^ (32 - s)), ← pow_split (show s ≤ 32 by omega), Nat.add_mul] at h5
    have e1 : 2 ^ 32 = 4294967296 := by decide
    omega
  have hhi : (x * 2 ^ s) / 4294967296 < 2 ^ s := by
    apply Nat.div_lt_of_lt_mul
    exact Nat.mul_lt_mul_of_pos_right bx hp
  have h31 : 2 ^ s ≤ 2 ^ 31 := Nat.pow_le_pow_right (by decide) hs
  have e31 : 2 ^ 31 = 2147483648 := by decide
  refine ⟨by simpa using h1, lims_set (lims_set h2 _ _ hlo) _ _ (by omega), ?_, ?_⟩
  · rw [getD_set_eq (by simp; omega)]; exact hhi
  · rw [val_set_take (by simp; omega), val_set_take (by omega), val_take_step xs, ← hx]
    rw [val_take_step os] at h4
    have e2 : 2 ^ s * (4294967296 ^ i * x) = 4294967296 ^ i * (x * 2 ^ s) := by grind
    have e3 : 4294967296 ^ i * (x * 2 ^ s) = 4294967296 ^ i * ((x * 2 ^ s) % 4294967296) + 4294967296 ^ (i + 1) * ((x * 2 ^ s) / 4294967296) := by
      rw [Nat.pow_succ, Nat.mul_assoc, ← Nat.mul_add]; congr 1; omega
    rw [Nat.mul_add (2 ^ s), e2, e3, Nat.mul_add]
    omega

theorem leftInv_end {n s : Nat} {os xs : List Nat} (h : leftInv n n s os xs) (hn : xs.length ≤ n) : lims os ∧ os.length = n + 1 ∧ val os = 2 ^ s * val xs := by
  obtain ⟨h1, h2, h3, h4⟩ := h
  rw [val_take_ge hn, val_take_ge (by omega)] at h4
  exact ⟨h2, h1, h4⟩

/-- left hands back a new block that it owns. -/
def Lefted (w : World) (xs : List Nat) (s : Nat) (w' : World) (v : Value) : Prop :=
  ∃ b os, v = .slice (some ⟨b, 0, none⟩) (xs.length + 1) (xs.length + 1) ∧ w.heap.size ≤ b ∧ Arr w' b os ∧ lims os ∧ os.length = xs.length + 1 ∧ val os = 2 ^ s * val xs

set_option maxHeartbeats 1000000 in
theorem left_any (v : Value) (xs : List Nat) (s : Nat) (w : World) (h : Sl w v xs) (hx : xs.length ≤ 8589934592) (hs31 : s ≤ 31) :
    Calls Try.prog 103 #[v, .int .i64 (s : Int)] w (Ret w (Lefted w xs s)) := by
  obtain ⟨ad, n, cap, rfl, hn, hnc, hm, ha, hs⟩ := h
  have hn4 : n ≤ 8589934592 := by omega
  have Hn := Lib.hid hn; clear hn hx
  have Ha := Lib.hid ha; clear ha
  go_enter Try.func103, Try.ntmps103
  go_wp2_with (at_make; refine wpList_make_u32 _ rfl _ _ _ rfl 64 Try.underlying23 Try.infoU32 _ (n + 1) rfl rfl (by omega) (by omega) ?_; intro w0 hA0 hb0 _)
  go_wp2
  go_loopw [15] (fun i wr => ∃ k os, k ≤ n ∧ i = .int .i64 ((k : Nat) : Int) ∧ Arr wr w.heap.size os ∧ Hid (leftInv n k s os xs) ∧ Below w.heap.size w wr) (fun i _ => n - (intOf i).toNat)
  case atStart => exact ⟨0, _, Nat.zero_le _, rfl, hA0, Lib.hid (leftInv_zero _ _ _), hb0⟩
  case round =>
    obtain ⟨i, os, hi, rfl, hA, Hs, hbl⟩ := hrel
    by_cases hin : i < n
    · obtain ⟨b1, off, rfl, hbw, hc⟩ := hs (by omega)
      have c1 := (hbl.cell (p := ⟨b1, off + i, none⟩) hbw).trans (hc i hin)
      have ⟨hol, hos, hob, _⟩ := Hs.out
      have bx := lims_getD Ha.out i
      have HO : Hid (bits .or .u32 ((os[i]?.getD 0 : Nat) : Int) (IntKind.u64.wrap (((xs[i]?.getD 0 : Nat) : Int) * 2 ^ s) % 4294967296) = ((os.getD i 0 + (xs.getD i 0 * 2 ^ s) % 4294967296 : Nat) : Int)) := Lib.hid (left_or hob bx hs31)
      have HW : Hid (IntKind.u64.wrap (((xs[i]?.getD 0 : Nat) : Int) * 2 ^ s) / 4294967296 % 4294967296 = (((xs.getD i 0 * 2 ^ s) / 4294967296 : Nat) : Int)) := Lib.hid (by
        have e1 := wrap_shl bx (show s ≤ 32 by omega)
        have e2 := shl_bound bx (show s ≤ 32 by omega)
        have e3 : IntKind.u64.wrap (((xs[i]?.getD 0 : Nat) : Int) * 2 ^ s) = ((xs.getD i 0 * 2 ^ s : Nat) : Int) := e1
        rw [e3]; omega)
      have ex : xs.getD i 0 = xs[i]?.getD 0 := rfl
      rw [ex] at bx c1
      have Ex := Lib.hid ex; clear ex
      have c3 := hA.cell i (by omega)
      have c4 := hA.frozen i
      have c5 := hA.cell (i + 1) (by omega)
      have c6 := hA.frozen (i + 1)
      have Ol := Lib.hid hol; clear hol hos hob hc hs
      go_wp2
      go_roundw
      case rel =>
        refine ⟨i + 1, _, by omega, by go_num, ?_, Lib.hid (leftInv_step Hs.out hin hs31 rfl Ha.out), (hbl.setCell (Nat.le_refl _) _).setCell (Nat.le_refl _) _⟩
        rw [HO.out, HW.out]
        exact (hA.set i _).set (i + 1) _
      case measure => simp [intOf] <;> omega
    · obtain rfl : i = n := by omega
      have HE := Lib.hid (leftInv_end Hs.out (by have := Hn.out; omega))
      go_wp2
      go_ret
      refine ⟨_, rfl, ⟨w.heap.size, os, ?_, Nat.le_refl _, hA, HE.out.1, ?_, HE.out.2.2⟩, hbl⟩
      · rw [Hn.out]; rfl
      · rw [Hn.out]; exact HE.out.2.1

end Go.Proofs.Ytfkjhaniglmejaa
