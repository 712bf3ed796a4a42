/- Walks over the laws of package natural: awake. Each example of the document as a call, then the walk. -/
import Derived.Test.YtenncidmkcfebaaRefG
namespace Go.Proofs.Ytenncidmkcfebaa
open Go.RowKit Nt

theorem limbs_single {x : Nat} (h0 : 0 < x) (h : x < 4294967296) : limbs x = [x] := by
  rw [limbs_pos h0, Nat.mod_eq_of_lt h, Nat.div_eq_of_lt h, limbs_zero]

theorem same_single {x y : Nat} (h0 : 0 < x) (h : x < 4294967296) (he : x = y) : same (limbs x) [y] = true := by
  rw [limbs_single h0 h, he]; simp [same]

/-- A literal slice behind further new blocks. -/
theorem Sl.alloc {w : World} {v : Value} {xs : List Nat} (h : Sl w v xs) (o : Obj) : Sl (w.alloc o) v xs := h.below ((Below.refl _ _).alloc (Nat.le_refl _) o)

abbrev b1 (x : Int) : Obj := .cells #[.int .u32 x] 24
abbrev b2 (x y : Int) : Obj := .cells #[.int .u32 x, .int .u32 y] 24
abbrev b3 (x y z : Int) : Obj := .cells #[.int .u32 x, .int .u32 y, .int .u32 z] 24

theorem below2 {w w' : World} {o p : Obj} (h : Below ((w.alloc o).alloc p).heap.size ((w.alloc o).alloc p) w') : Below w.heap.size w w' :=
  (((Below.refl _ _).alloc (Nat.le_refl _) o).alloc (by simp) p).trans (h.mono (by simp; omega))
theorem below1 {w w' : World} {o : Obj} (h : Below (w.alloc o).heap.size (w.alloc o) w') : Below w.heap.size w w' :=
  ((Below.refl _ _).alloc (Nat.le_refl _) o).trans (h.mono (by simp))

theorem sub_ex (w : World) : Calls Try.prog 34 #[.slice (some ⟨w.heap.size, 0, none⟩) 2 2, .slice (some ⟨w.heap.size + 1, 0, none⟩) 1 1]
   ((w.alloc (b2 0 1)).alloc (b1 1)) (Ret w (NumE 4294967295 0)) := by
  have hA := (sl_two w 24 0 1 (by decide) (by decide)).alloc (b1 1)
  have hB := sl_one (w.alloc (b2 0 1)) 24 1 (by decide)
  rw [World.size_alloc] at hB
  refine (sub_any _ _ _ _ _ hA hB (by decide)).mono ?_
  rintro e w' ⟨v, rfl, hn, hb⟩
  exact ⟨v, rfl, hn, below2 hb⟩

theorem dm_ex (w : World) : Calls Try.prog 28 #[.slice (some ⟨w.heap.size, 0, none⟩) 3 3, .slice (some ⟨w.heap.size + 1, 0, none⟩) 2 2]
   ((w.alloc (b3 0 0 1)).alloc (b2 1 1)) (Ret w (Num2E 4294967295 1 0)) := by
  have hA := (sl_three w 24 0 0 1 (by decide) (by decide) (by decide)).alloc (b2 1 1)
  have hB := sl_two (w.alloc (b3 0 0 1)) 24 1 1 (by decide) (by decide)
  rw [World.size_alloc] at hB
  refine (divmod_any _ _ _ _ _ hA hB (by decide)).mono ?_
  rintro e w' ⟨v, rfl, hn, hb⟩
  rw [show val [Int.toNat 0, Int.toNat 0, Int.toNat 1] / val [Int.toNat 1, Int.toNat 1] = 4294967295 by decide,
    show dmR (val [Int.toNat 0, Int.toNat 0, Int.toNat 1]) (val [Int.toNat 1, Int.toNat 1]) = 1 by decide,
    show dmE (val [Int.toNat 1, Int.toNat 1]) = 0 by decide] at hn
  exact ⟨v, rfl, hn, below2 hb⟩

theorem of12_ex (w : World) : Calls Try.prog 26 #[.int .u64 12] w (Ret w (Num 12)) := of_any 12 w (by decide)
theorem of18_ex (w : World) : Calls Try.prog 26 #[.int .u64 18] w (Ret w (Num 18)) := of_any 18 w (by decide)

theorem gcd_ex (u v : Value) (w : World) (hu : Num 12 w u) (hv : Num 18 w v) : Calls Try.prog 13 #[u, v] w (Ret w (Num 6)) := by
  have h12 : limbs 12 = [12] := limbs_single (by decide) (by decide)
  have h18 : limbs 18 = [18] := limbs_single (by decide) (by decide)
  unfold Num at hu hv
  rw [h12] at hu
  rw [h18] at hv
  refine (gcd_any _ _ _ _ _ hu hv (by decide) (by decide)).mono ?_
  rintro e w' ⟨v, rfl, hn, hb⟩
  have he : Nat.gcd (val [12]) (val [18]) = 6 := by decide
  rw [he] at hn
  exact ⟨v, rfl, hn, hb⟩

theorem same_ex (x : Int) (n : Nat) (v : Value) (w : World) (hx : 0 < x ∧ x < 4294967296) (he : n = x.toNat) (h : Num n w v) :
    Calls Try.prog 15 #[v, .slice (some ⟨w.heap.size, 0, none⟩) 1 1] (w.alloc (b1 x)) (Ret w (Val (.bool true))) := by
  have hB := sl_one w 24 x (by omega)
  refine (same_any _ _ _ _ _ (Sl.alloc h _) hB).mono ?_
  rintro e w' ⟨v, rfl, hn, hb⟩
  rw [same_single (by omega) (by omega) he] at hn
  exact ⟨v, rfl, hn, below1 hb⟩

theorem bits_ex (w : World) : Calls Try.prog 24 #[.slice (some ⟨w.heap.size, 0, none⟩) 2 2]
   (w.alloc (b2 0 1)) (Ret w (Val (.int .i64 33))) := by
  have hB := sl_two w 24 0 1 (by decide) (by decide)
  refine (bits_any _ _ _ hB (by decide)).mono ?_
  rintro e w' ⟨v, rfl, hn, hb⟩
  rw [show blen (val [Int.toNat 0, Int.toNat 1]) = 33 by decide +kernel] at hn
  exact ⟨v, rfl, hn, below1 hb⟩

def Nil (_ : World) (v : Value) : Prop := ∃ a c, v = .slice a 0 c

theorem make_ex (w : World) : Calls Try.prog 19 #[.slice (some ⟨w.heap.size, 0, none⟩) 2 2]
   (w.alloc (b2 0 0)) (Ret w Nil) := by
  have hB := sl_two w 24 0 0 (by decide) (by decide)
  refine (make_any _ _ _ hB).mono ?_
  rintro e w' ⟨v, rfl, hn, hb⟩
  unfold Num at hn
  rw [show val [Int.toNat 0, Int.toNat 0] = 0 by decide, limbs_zero] at hn
  obtain ⟨ad, n, cap, rfl, hn, -⟩ := hn
  have hn0 : n = 0 := by simpa using hn.symm
  subst hn0
  exact ⟨_, rfl, ⟨_, _, rfl⟩, below1 hb⟩

set_option maxRecDepth 100000 in
theorem awake_any (w : World) : Calls Try.prog 12 #[] w (Ret w (Val (.bool true))) := by
  go_enter Try.func12, Try.ntmps12
  go_wp2_with fail
  refine (sub_ex w).mono ?_
  rintro e w1 ⟨t1, rfl, ⟨d, rfl, h1⟩, hb1⟩
  have H1 := Lib.hid h1
  have HB1 := Lib.hid hb1
  clear h1 hb1
  go_wp2_with fail
  refine (dm_ex w1).mono ?_
  rintro e w2 ⟨t2, rfl, ⟨q, r, rfl, h2, h3⟩, hb2⟩
  have HB2 := Lib.hid (HB1.out.trans (hb2.mono HB1.out.size))
  have H1 := Lib.hid (Sl.below H1.out hb2)
  have H2 := Lib.hid h2
  have H3 := Lib.hid h3
  clear h2 h3 hb2
  go_wp2_with fail
  refine (of12_ex w2).mono ?_
  rintro e w3 ⟨v4, rfl, h4, hb3⟩
  have HB3 := Lib.hid (HB2.out.trans (hb3.mono HB2.out.size))
  have H1 := Lib.hid (Sl.below H1.out hb3)
  have H2 := Lib.hid (Sl.below H2.out hb3)
  have H3 := Lib.hid (Sl.below H3.out hb3)
  have H4 := Lib.hid h4
  clear h4 hb3
  go_wp2_with fail
  refine (of18_ex w3).mono ?_
  rintro e w4 ⟨v5, rfl, h5, hb4⟩
  have HB4 := Lib.hid (HB3.out.trans (hb4.mono HB3.out.size))
  have H1 := Lib.hid (Sl.below H1.out hb4)
  have H2 := Lib.hid (Sl.below H2.out hb4)
  have H3 := Lib.hid (Sl.below H3.out hb4)
  have H4 := Lib.hid (Sl.below H4.out hb4)
  have H5 := Lib.hid h5
  clear h5 hb4
  go_wp2_with fail
  refine (gcd_ex _ _ _ H4.out H5.out).mono ?_
  rintro e w5 ⟨v6, rfl, h6, hb5⟩
  have HB5 := Lib.hid (HB4.out.trans (hb5.mono HB4.out.size))
  have H1 := Lib.hid (Sl.below H1.out hb5)
  have H2 := Lib.hid (Sl.below H2.out hb5)
  have H3 := Lib.hid (Sl.below H3.out hb5)
  have H6 := Lib.hid h6
  clear h6 hb5
  go_wp2_with fail
  refine (same_ex 4294967295 _ _ _ (by decide) rfl H1.out).mono ?_
  rintro e w6 ⟨b1, rfl, rfl, hb6⟩
  have HB6 := Lib.hid (HB5.out.trans (hb6.mono HB5.out.size))
  have H2 := Lib.hid (Sl.below H2.out hb6)
  have H3 := Lib.hid (Sl.below H3.out hb6)
  have H6 := Lib.hid (Sl.below H6.out hb6)
  clear hb6
  go_wp2_with fail
  refine (same_ex 4294967295 _ _ _ (by decide) rfl H2.out).mono ?_
  rintro e w7 ⟨b2, rfl, rfl, hb7⟩
  have HB7 := Lib.hid (HB6.out.trans (hb7.mono HB6.out.size))
  have H3 := Lib.hid (Sl.below H3.out hb7)
  have H6 := Lib.hid (Sl.below H6.out hb7)
  clear hb7
  go_wp2_with fail
  refine (same_ex 1 _ _ _ (by decide) rfl H3.out).mono ?_
  rintro e w8 ⟨b3, rfl, rfl, hb8⟩
  have HB8 := Lib.hid (HB7.out.trans (hb8.mono HB7.out.size))
  have H6 := Lib.hid (Sl.below H6.out hb8)
  clear hb8
  go_wp2_with fail
  refine (same_ex 6 _ _ _ (by decide) rfl H6.out).mono ?_
  rintro e w9 ⟨b4, rfl, rfl, hb9⟩
  have HB9 := Lib.hid (HB8.out.trans (hb9.mono HB8.out.size))
  clear hb9
  go_wp2_with fail
  refine (bits_ex w9).mono ?_
  rintro e w10 ⟨b5, rfl, rfl, hb10⟩
  have HB10 := Lib.hid (HB9.out.trans (hb10.mono HB9.out.size))
  clear hb10
  go_wp2_with fail
  refine (make_ex w10).mono ?_
  rintro e w11 ⟨b6, rfl, ⟨ad, cap, rfl⟩, hb11⟩
  have HB11 := Lib.hid (HB10.out.trans (hb11.mono HB10.out.size))
  clear hb11
  go_wp2
  go_ret
  exact ⟨_, rfl, rfl, HB11.out⟩

end Go.Proofs.Ytenncidmkcfebaa
