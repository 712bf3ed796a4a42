/- Walks over the laws of package natural: awake. Each example of the document as a call, then the walk. -/
import Derived.Test.YtfkjhaniglmejaaRefG
namespace Go.Proofs.Ytfkjhaniglmejaa
open Go.RowKit Nt

theorem limbs_single {x : Nat} (h0 : 0 < x) (h : x < 4294967296) : limbs x = [x] := by
  rw [limbs_pos h0, Nat.mod_eq_of_lt h, Nat.div_eq_of_lt h, limbs_zero]

theorem same_single {x y : Nat} (h0 : 0 < x) (h : x < 4294967296) (he : x = y) : same (limbs x) [y] = true := by
  rw [limbs_single h0 h, he]; simp [same]

/-- A literal slice behind further new blocks. -/
theorem Sl.alloc {w : World} {v : Value} {xs : List Nat} (h : Sl w v xs) (o : Obj) : Sl (w.alloc o) v xs := h.below ((Below.refl _ _).alloc (Nat.le_refl _) o)

abbrev b1 (x : Int) : Obj := .cells #[.int .u32 x] 64
abbrev b2 (x y : Int) : Obj := .cells #[.int .u32 x, .int .u32 y] 64
abbrev b3 (x y z : Int) : Obj := .cells #[.int .u32 x, .int .u32 y, .int .u32 z] 64

theorem below2 {w w' : World} {o p : Obj} (h : Below ((w.alloc o).alloc p).heap.size ((w.alloc o).alloc p) w') : Below w.heap.size w w' :=
  (((Below.refl _ _).alloc (Nat.le_refl _) o).alloc (by simp) p).trans (h.mono (by simp; omega))
theorem below1 {w w' : World} {o : Obj} (h : Below (w.alloc o).heap.size (w.alloc o) w') : Below w.heap.size w w' :=
  ((Below.refl _ _).alloc (Nat.le_refl _) o).trans (h.mono (by simp))

theorem sub_ex (w : World) : Calls Try.prog 84 #[.slice (some ⟨w.heap.size, 0, none⟩) 2 2, .slice (some ⟨w.heap.size + 1, 0, none⟩) 1 1]
   ((w.alloc (b2 0 1)).alloc (b1 1)) (Ret w (NumE 4294967295 0)) := by
  have hA := (sl_two w 64 0 1 (by decide) (by decide)).alloc (b1 1)
  have hB := sl_one (w.alloc (b2 0 1)) 64 1 (by decide)
  rw [World.size_alloc] at hB
  refine (sub_any _ _ _ _ _ hA hB (by decide)).mono ?_
  rintro e w' ⟨v, rfl, hn, hb⟩
  exact ⟨v, rfl, hn, below2 hb⟩

theorem dm_ex (w : World) : Calls Try.prog 87 #[.slice (some ⟨w.heap.size, 0, none⟩) 3 3, .slice (some ⟨w.heap.size + 1, 0, none⟩) 2 2]
   ((w.alloc (b3 0 0 1)).alloc (b2 1 1)) (Ret w (Num2E 4294967295 1 0)) := by
  have hA := (sl_three w 64 0 0 1 (by decide) (by decide) (by decide)).alloc (b2 1 1)
  have hB := sl_two (w.alloc (b3 0 0 1)) 64 1 1 (by decide) (by decide)
  rw [World.size_alloc] at hB
  refine (divmod_any _ _ _ _ _ hA hB (by decide)).mono ?_
  rintro e w' ⟨v, rfl, hn, hb⟩
  rw [show val [Int.toNat 0, Int.toNat 0, Int.toNat 1] / val [Int.toNat 1, Int.toNat 1] = 4294967295 by decide,
    show dmR (val [Int.toNat 0, Int.toNat 0, Int.toNat 1]) (val [Int.toNat 1, Int.toNat 1]) = 1 by decide,
    show dmE (val [Int.toNat 1, Int.toNat 1]) = 0 by decide] at hn
  exact ⟨v, rfl, hn, below2 hb⟩

theorem of12_ex (w : World) : Calls Try.prog 96 #[.int .u64 12] w (Ret w (Num 12)) := of_any 12 w (by decide)
theorem of18_ex (w : World) : Calls Try.prog 96 #[.int .u64 18] w (Ret w (Num 18)) := of_any 18 w (by decide)

theorem gcd_ex (u v : Value) (w : World) (hu : Num 12 w u) (hv : Num 18 w v) : Calls Try.prog 86 #[u, v] w (Ret w (Num 6)) := by
  have h12 : limbs 12 = [12] := limbs_single (by decide) (by decide)
  have h18 : limbs 18 = [18] := limbs_single (by decide) (by decide)
  unfold Num at hu hv
  rw [h12] at hu
  rw [h18] at hv
  refine (gcd_any _ _ _ _ _ hu hv (by decide) (by decide)).mono ?_
  rintro e w' ⟨v, rfl, hn, hb⟩
  have he : Nat.gcd (val [12]) (val [18]) = 6 := by decide
  rw [he] at hn
  exact ⟨v, rfl, hn, hb⟩

theorem same_ex (x : Int) (n : Nat) (v : Value) (w : World) (hx : 0 < x ∧ x < 4294967296) (he : n = x.toNat) (h : Num n w v) :
    Calls Try.prog 47 #[v, .slice (some ⟨w.heap.size, 0, none⟩) 1 1] (w.alloc (b1 x)) (Ret w (Val (.bool true))) := by
  have hB := sl_one w 64 x (by omega)
  refine (same_any _ _ _ _ _ (Sl.alloc h _) hB).mono ?_
  rintro e w' ⟨v, rfl, hn, hb⟩
  rw [same_single (by omega) (by omega) he] at hn
  exact ⟨v, rfl, hn, below1 hb⟩

theorem bits_ex (w : World) : Calls Try.prog 89 #[.slice (some ⟨w.heap.size, 0, none⟩) 2 2]
   (w.alloc (b2 0 1)) (Ret w (Val (.int .i64 33))) := by
  have hB := sl_two w 64 0 1 (by decide) (by decide)
  refine (bits_any _ _ _ hB (by decide)).mono ?_
  rintro e w' ⟨v, rfl, hn, hb⟩
  rw [show blen (val [Int.toNat 0, Int.toNat 1]) = 33 by decide +kernel] at hn
  exact ⟨v, rfl, hn, below1 hb⟩

def Nil (_ : World) (v : Value) : Prop := ∃ a c, v = .slice a 0 c

theorem make_ex (w : World) : Calls Try.prog 77 #[.slice (some ⟨w.heap.size, 0, none⟩) 2 2]
   (w.alloc (b2 0 0)) (Ret w Nil) := by
  have hB := sl_two w 64 0 0 (by decide) (by decide)
  refine (make_any _ _ _ hB).mono ?_
  rintro e w' ⟨v, rfl, hn, hb⟩
  unfold Num at hn
  rw [show val [Int.toNat 0, Int.toNat 0] = 0 by decide, limbs_zero] at hn
  obtain ⟨ad, n, cap, rfl, hn, -⟩ := hn
  have hn0 : n = 0 := by simpa using hn.symm
  subst hn0
  exact ⟨_, rfl, ⟨_, _, rfl⟩, below1 hb⟩

end Go.Proofs.Ytfkjhaniglmejaa
