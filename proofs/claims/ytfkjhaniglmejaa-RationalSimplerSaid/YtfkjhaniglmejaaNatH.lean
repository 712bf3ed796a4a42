/- Walks over package natural, seventh part: short. -/
import Derived.Test.YtfkjhaniglmejaaNatG
namespace Go.Proofs.Ytfkjhaniglmejaa
open Go.RowKit Nt

/-- The limbs from k on are divided, the remainder is r. -/
def shortInv (n k r d : Nat) (os xs : List Nat) : Prop :=
  os.length = n ∧ lims os ∧ r < d ∧ val (os.drop k) * d + r = val (xs.drop k)

theorem shortInv_top {n d : Nat} {xs : List Nat} (hn : xs.length = n) (hd : 0 < d) : shortInv n n 0 d (List.replicate n 0) xs :=
  ⟨by simp, lims_replicate _, hd, by rw [List.drop_of_length_le (by simp), List.drop_of_length_le (by omega)]; simp [val]⟩

theorem drop_set (xs : List Nat) (k x : Nat) (h : k < xs.length) : (xs.set k x).drop k = x :: xs.drop (k + 1) := by
  rw [List.drop_eq_getElem_cons (by simpa using h)]
  simp [List.drop_set_of_lt]

theorem shortInv_step {n k r d z : Nat} {os xs : List Nat} (h : shortInv n (k + 1) r d os xs) (hk : k < n) (hn : xs.length = n) (hx : lims xs) (hd : d < 4294967296) (hz : z = xs.getD k 0 + 4294967296 * r) :
    z / d < 4294967296 ∧ shortInv n k (z % d) d (os.set k (z / d)) xs := by
  obtain ⟨h1, h2, h3, h4⟩ := h
  have bx := lims_getD hx k
  have hq : z / d < 4294967296 := by
    apply Nat.div_lt_of_lt_mul
    have : r + 1 ≤ d := h3
    have : 4294967296 * (r + 1) ≤ 4294967296 * d := Nat.mul_le_mul_left _ this
    rw [Nat.mul_add] at this
    rw [Nat.mul_comm d]; omega
  refine ⟨hq, by simpa using h1, lims_set h2 _ _ hq, Nat.mod_lt _ (by omega), ?_⟩
  rw [drop_set _ _ _ (by omega), drop_step xs k (by omega), val_cons, ← h4]
  have e := Nat.div_add_mod z d
  have e2 : (z / d + 4294967296 * val (os.drop (k + 1))) * d = d * (z / d) + 4294967296 * (val (os.drop (k + 1)) * d) := by grind
  rw [e2]; omega

theorem shortInv_end {n r d : Nat} {os xs : List Nat} (h : shortInv n 0 r d os xs) : lims os ∧ os.length = n ∧ val os = val xs / d ∧ r = val xs % d := by
  obtain ⟨h1, h2, h3, h4⟩ := h
  simp only [List.drop_zero] at h4
  refine ⟨h2, h1, ?_, ?_⟩
  · rw [← h4, Nat.mul_comm, Nat.mul_add_div (by omega), Nat.div_eq_of_lt h3, Nat.add_zero]
  · rw [← h4, Nat.mul_comm, Nat.mul_add_mod, Nat.mod_eq_of_lt h3]

theorem or_high' {x y : Nat} (hx : x < 4294967296) (hy : y < 4294967296) : bits .or .u64 ((y : Int) * 4294967296) (x : Int) = ((x + 4294967296 * y : Nat) : Int) := by
  have e1 : 2 ^ 32 = 4294967296 := by decide
  have e2 : ((y : Int) * 4294967296) = ((y * 4294967296 : Nat) : Int) := by omega
  rw [e2, u64_or_nat _ _ (by omega) (by omega), Nat.or_comm, ← e1, or_low (by omega), e1]
  omega

set_option maxHeartbeats 1000000 in
theorem short_any (v : Value) (xs : List Nat) (d : Nat) (w : World) (h : Sl w v xs) (hx : xs.length ≤ 8589934592) (hd0 : 1 ≤ d) (hd : d < 4294967296) :
    Calls Try.prog 101 #[v, .int .u32 (d : Int)] w (Ret w (Num2 (val xs / d) (val xs % d))) := by
  obtain ⟨ad, n, cap, rfl, hn, hnc, hm, ha, hs⟩ := h
  have hn4 : n ≤ 8589934592 := by omega
  have Hn := Lib.hid hn; clear hn hx
  have Ha := Lib.hid ha; clear ha
  go_enter Try.func101, Try.ntmps101
  go_wp2_with (at_make; refine wpList_make_u32 _ rfl _ _ _ rfl 64 Try.underlying23 Try.infoU32 _ n rfl rfl (by omega) (by omega) ?_; intro w0 hA0 hb0 _)
  go_wp2
  go_loopw [7, 8] (fun rr i wr => ∃ (k r : Nat) (os : List Nat), k ≤ n ∧ i = .int .i64 ((k : Int) - 1) ∧ rr = .int .u64 ((r : Nat) : Int) ∧ Arr wr w.heap.size os ∧ Hid (shortInv n k r d os xs) ∧ Below w.heap.size w wr) (fun _ i _ => (intOf i + 1).toNat)
  case atStart => exact ⟨n, 0, _, Nat.le_refl _, rfl, rfl, hA0, Lib.hid (shortInv_top Hn.out hd0), hb0⟩
  case round =>
    obtain ⟨k, r, os, hk, rfl, rfl, hA, Hs, hbl⟩ := hrel
    have ⟨hol, _, hr, _⟩ := Hs.out
    have Ol := Lib.hid hol; clear hol
    have hrb : r < 4294967296 := by omega
    rcases Nat.eq_zero_or_pos k with hk0 | hk0
    · subst hk0
      have HE := Lib.hid (shortInv_end Hs.out)
      clear hr
      go_wp2_with fail
      refine (trim_any _ _ _ (hA.sl (n := n) HE.out.1 HE.out.2.1 (Nat.le_refl _) (by omega))).mono ?_
      rintro e w' ⟨v1, rfl, h1, rfl⟩
      rw [HE.out.2.2.1] at h1
      go_wp2_with fail
      refine (of_any r _ (by omega)).mono ?_
      rintro e w2 ⟨v2, rfl, h2, hb2⟩
      unfold Num at h2
      have h1' := h1.below hb2
      rw [HE.out.2.2.2] at h2
      go_wp2
      go_ret2
      exact ⟨_, rfl, ⟨_, _, rfl, h1', h2⟩, hbl.trans (hb2.mono hbl.size)⟩
    · obtain ⟨j, rfl⟩ : ∃ j, k = j + 1 := ⟨k - 1, by omega⟩
      rw [show ((j + 1 : Nat) : Int) - 1 = (j : Int) from by omega]
      obtain ⟨b, off, rfl, hbw, hc⟩ := hs (by omega)
      have c1 := (hbl.cell (p := ⟨b, off + j, none⟩) hbw).trans (hc j hk)
      have bx := lims_getD Ha.out j
      have HS := shortInv_step (z := xs.getD j 0 + 4294967296 * r) Hs.out hk Hn.out Ha.out hd rfl
      have ho : bits .or .u64 ((r : Int) * 4294967296) ((xs[j]?.getD 0 : Nat) : Int) = ((xs.getD j 0 + 4294967296 * r : Nat) : Int) := or_high' bx hrb
      obtain ⟨Z, hZ⟩ : ∃ Z, Z = xs.getD j 0 + 4294967296 * r := ⟨_, rfl⟩
      rw [← hZ] at ho HS
      have hZ0 : Z < 18446744073709551616 := by omega
      have ex : xs.getD j 0 = xs[j]?.getD 0 := rfl
      rw [ex] at bx c1
      have HS' := Lib.hid HS; clear HS hZ ex
      have c3 := hA.cell j (by have := Ol.out; omega)
      have c4 := hA.frozen j
      clear hs hc hr
      have HQ : Hid (IntKind.u64.wrap ((Z : Int) / (d : Int)) % 4294967296 = ((Z / d : Nat) : Int)) := Lib.hid (by
        have e : (Z : Int) / (d : Int) = ((Z / d : Nat) : Int) := by simp
        have h3 := HS'.out.1
        rw [e, wrap_u64]
        generalize Z / d = Q at h3 ⊢
        omega)
      go_wp2
      go_roundw
      case rel => exact ⟨j, Z % d, _, by omega, rfl, congrArg (Value.int .u64) (Int.natCast_emod Z d).symm, by rw [HQ.out]; exact hA.set j _, Lib.hid HS'.out.2, hbl.setCell (Nat.le_refl _) _⟩
      case measure => simp [intOf] <;> omega

end Go.Proofs.Ytfkjhaniglmejaa
