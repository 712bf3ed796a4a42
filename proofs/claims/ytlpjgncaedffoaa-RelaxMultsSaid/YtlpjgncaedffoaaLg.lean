/- Texts Large, in this order. -/
import Derived.Test.YtlpjgncaedffoaaDa
namespace Go.Proofs.Ytlpjgncaedffoaa
open Go.RowKit Nt
set_option linter.unusedVariables false

/-- One number as it lies in three cells. -/
structure Rw where
  b : Bool
  s : Option Addr
  n : Nat
  c : Nat
  t : Option Addr
  m : Nat
  e : Nat
instance : Inhabited Rw := ⟨⟨false, none, 0, 0, none, 0, 0⟩⟩
def Rw.big (r : Rw) : Bool := decide ((8 : Int) < r.n) || decide ((8 : Int) < r.m)
/-- n numbers lie from block g on. -/
def Lies (w : World) (g : Nat) (l : List Rw) : Prop := ∀ k, k < l.length →
  w.cell? ⟨g, k * 3, none⟩ = some (.bool l[k]!.b) ∧ w.cell? ⟨g, k * 3 + 1, none⟩ = some (.slice l[k]!.s l[k]!.n l[k]!.c) ∧ w.cell? ⟨g, k * 3 + 2, none⟩ = some (.slice l[k]!.t l[k]!.m l[k]!.e)

theorem any_big {l : List Rw} {k : Nat} (h : k < l.length) (hb : l[k]!.big = true) : l.any Rw.big = true := by
  rw [List.any_eq_true]
  exact ⟨l[k], List.getElem_mem h, by rw [getElem!_pos l k h] at hb; exact hb⟩
theorem no_big {l : List Rw} (h : ∀ j, j < l.length → l[j]!.big = false) : l.any Rw.big = false := by
  rw [List.any_eq_false]
  intro r hr
  obtain ⟨j, hj, rfl⟩ := List.getElem_of_mem hr
  have := h j hj
  rw [getElem!_pos l j hj] at this
  rw [this]; simp
set_option maxRecDepth 100000 in
set_option maxHeartbeats 4000000 in
theorem large_any (g : Nat) (l : List Rw) (w : World) (hg : g < w.heap.size) (hl : l.length ≤ 1000) (h : Lies w g l) (n : Nat) (hn : l.length = n) (B : Bool) (hB : l.any Rw.big = B) :
    Calls Try.prog 11 #[.slice (some ⟨g, 0, none⟩) n n] w (Ret w (Val (.bool B))) := by
  subst hB
  have Hn := Lib.hid hn; clear hn
  have H := Lib.hid h; clear h
  have Hl := Lib.hid hl; clear hl
  go_enter Try.func11, Try.ntmps11
  go_wp2
  go_loopw [7] (fun i wr => ∃ k : Nat, k ≤ n ∧ i = .int .i64 k ∧ Hid (∀ j, j < k → l[j]!.big = false) ∧ Below w.heap.size w wr) (fun i _ => n - (intOf i).toNat)
  case atStart => exact ⟨0, Nat.zero_le _, rfl, Lib.hid (fun j hj => absurd hj (by omega)), Below.refl _ _⟩
  case round =>
    obtain ⟨k, hk, rfl, Hs, hb⟩ := hrel
    by_cases hkn : k < n
    · obtain ⟨c1, c2, c3⟩ := H.out k (by rw [Hn.out]; exact hkn)
      have c1 := (hb.cell (p := ⟨g, k * 3, none⟩) hg).trans c1
      have c2 := (hb.cell (p := ⟨g, k * 3 + 1, none⟩) hg).trans c2
      have c3 := (hb.cell (p := ⟨g, k * 3 + 2, none⟩) hg).trans c3
      obtain ⟨r, hr⟩ : ∃ r, r = l[k]! := ⟨_, rfl⟩
      rw [← hr] at c1 c2 c3
      have Hr := Lib.hid hr
      clear hr
      have kl := Hl.out
      have kn := Hn.out
      cases e1 : decide ((8 : Int) < (r.n : Int))
      · cases e2 : decide ((8 : Int) < (r.m : Int))
        · have E := Lib.hid (show r.big = false by unfold Rw.big; rw [e1, e2]; rfl)
          go_wp2
          go_roundw
          case rel =>
            refine ⟨k + 1, by omega, by go_num, Lib.hid (fun j hj => ?_), hb.alloc hb.size _⟩
            rcases Nat.lt_succ_iff_lt_or_eq.1 hj with h | h
            · exact Hs.out j h
            · rw [h, ← Hr.out]; exact E.out
          case measure => simp [intOf]; omega
        · have E := Lib.hid (any_big (l := l) (k := k) (by omega) (by rw [← Hr.out]; unfold Rw.big; rw [e1, e2]; rfl))
          go_wp2
          go_ret
          refine ⟨_, rfl, ?_, hb.alloc hb.size _⟩
          show Value.bool _ = Value.bool _
          rw [E.out]
      · have E := Lib.hid (any_big (l := l) (k := k) (by omega) (by rw [← Hr.out]; unfold Rw.big; rw [e1]; rfl))
        go_wp2
        go_ret
        refine ⟨_, rfl, ?_, hb.alloc hb.size _⟩
        show Value.bool _ = Value.bool _
        rw [E.out]
    · have E := Lib.hid (no_big (l := l) (fun j hj => Hs.out j (by rw [Hn.out] at hj; omega)))
      go_wp2
      go_ret
      refine ⟨_, rfl, ?_, hb⟩
      show Value.bool _ = Value.bool _
      rw [E.out]
end Go.Proofs.Ytlpjgncaedffoaa
