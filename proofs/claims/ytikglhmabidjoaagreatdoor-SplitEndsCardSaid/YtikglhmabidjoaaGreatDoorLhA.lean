/- Layer 38: how the arguments and the laid variable read at the call. -/
import Derived.Test.YtikglhmabidjoaaGreatDoorLgR
import Derived.Test.YtikglhmabidjoaaGreatDoorRows
import Derived.Lib.LaidTab
import Derived.OpenShut
import Derived.ShutString
import Derived.ChangeOld
import Derived.ProofKit
import Derived.WalkKit
import Derived.LaidMore
namespace Go.Proofs.YtikglhmabidjoaaGreatDoor.Lf
open Go.RowKit Go.ChangeShapes Go.WideShapes Nt
set_option linter.unusedVariables false
set_option linter.unusedSimpArgs false
set_option maxRecDepth 100000
theorem gOpp : Tryz.prog.globalNamed "relucert/phase.opposites" = some 0 := by kernel_rfl
theorem glb_of_laid {W : World} (h : laidMetH Tryz.prog [("relucert/phase.opposites", Rows.laid_relucert_phase_opposites)] W) : Glb M0 W := by
  rw [MakeChecks.laidMetH_plain _ _ _ (by kernel_rfl)] at h
  have hT := Lib.tabIs_of_head (k := .i64) (zs := [0, 2, 1, 4, 3]) (rest := []) (W := W) gOpp (t := 133) (by kernel_rfl) Tryz.underlying133 Tryz.underlying3 (by kernel_rfl) (by kernel_rfl) h
  intro g row hg j d hd
  unfold GT at hg
  split at hg
  · injection hg with hg
    subst hg
    have hc : ∀ i, i < 5 → W.cell? ⟨0, i, none⟩ = some (.int .i64 (([0, 2, 1, 4, 3] : List Int).getD i 0)) := fun i hi => hT.cell gOpp i hi
    match j, hd with
    | 0, hd => injection hd with hd; subst hd; exact ⟨_, ⟨fun h => h, hc 0 (by decide)⟩, .lit _⟩
    | 1, hd => injection hd with hd; subst hd; exact ⟨_, ⟨fun h => h, hc 1 (by decide)⟩, .lit _⟩
    | 2, hd => injection hd with hd; subst hd; exact ⟨_, ⟨fun h => h, hc 2 (by decide)⟩, .lit _⟩
    | 3, hd => injection hd with hd; subst hd; exact ⟨_, ⟨fun h => h, hc 3 (by decide)⟩, .lit _⟩
    | 4, hd => injection hd with hd; subst hd; exact ⟨_, ⟨fun h => h, hc 4 (by decide)⟩, .lit _⟩
    | j + 5, hd => simp at hd
  · cases hg
theorem wfu8 {n : Int} (h : (Lit.int .u8 n).wf = true) : 0 ≤ n ∧ n < 256 := by
  simp [Lit.wf, IntKind.min, IntKind.max, IntKind.signed, IntKind.bits] at h
  omega
def Bys (w : World) (v : Value) (n : Nat) : Prop := n ≤ 1000000 → ∃ raw, RdD M0 w (bysD raw) v ∧ raw.length = n ∧ RawOk raw
theorem bys_of_read {H : Type} {enc : TypeId × Value → H} {w : World} {base : Nat} {held : Bool} {fuel : Nat} {c : Value} {y : DataW H × List MemPlace}
    (h : DataW.trod enc Tryz.prog w base (fun _ => true) held fuel 22 [c] = some y) : ∃ a n k, c = .slice a n k ∧ Bys w (.slice a n k) n := by
  rcases open_ints Tryz.underlying22 Tryz.underlying5 (by kernel_rfl) h with ⟨hcs, _⟩ | ⟨x, l, c', zs, hcs, _, hl, hm, hz, _, hcell, hwz⟩
  · injection hcs with h1 _
    subst h1
    refine ⟨_, _, _, rfl, fun hn => ⟨[], ?_, rfl, ⟨Nat.zero_le _, fun b h => by cases h⟩⟩⟩
    exact nil_ok 1
  · injection hcs with h1 _
    subst h1
    refine ⟨_, _, _, rfl, fun hn => ?_⟩
    have hzl : l ≤ zs.length := by simp at hz; omega
    have hlen : ((zs.take l).map Int.toNat).length = l := by simp; omega
    refine ⟨(zs.take l).map Int.toNat, ?_, hlen, ⟨by omega, fun b hb => ?_⟩⟩
    · have hrow : ∀ (i : Nat) (row : List D), (((zs.take l).map Int.toNat).map fun b => [D.lit (.int .u8 (b : Nat))])[i]? = some row → i < l ∧ row = [.lit (.int .u8 (zs.getD i 0))] := fun i row hi => by
        rw [List.getElem?_map, List.getElem?_map] at hi
        cases hj : (zs.take l)[i]? with
        | none => rw [hj] at hi; cases hi
        | some z =>
          rw [hj] at hi; injection hi with hi
          have hlt := at_lt hj
          have hil : i < l := by simp at hlt; omega
          have hz2 : zs[i]? = some z := by rw [List.getElem?_take] at hj; split at hj <;> simp_all
          have hw := wfu8 (hwz z (List.mem_of_getElem? hz2))
          rw [show zs.getD i 0 = z by rw [List.getD_eq_getElem?_getD, hz2]; rfl, ← hi]
          exact ⟨hil, by simp; omega⟩
      have hx0 : 0 < l → x.spot = none := fun h0 => by
        have c0 := hcell 0 (by omega)
        rw [show x.add 0 = x by rfl] at c0
        unfold World.cell? at c0
        split at c0
        · split at c0
          · cases c0
          · next h => simpa using h
        · cases c0
      have := RdD.sl (M := M0) (w := w) 1 (((zs.take l).map Int.toNat).map fun b => [D.lit (.int .u8 (b : Nat))]) (some x) c' (fun i _ => .int .u8 (zs.getD i 0)) (by simp; omega) (by simp; omega) (fun h0 => ?_) (fun i row hi => ?_) (fun _ _ => rfl) (fun i row j d hi hj => ?_)
      · rw [List.length_map, hlen] at this; exact this
      · have h0' : 0 < l := by simp at h0; omega
        obtain ⟨bl, off, spot⟩ := x
        have hs := hx0 h0'
        simp only at hs
        subst hs
        refine ⟨bl, off, rfl, fun i row j d hi hj => ?_⟩
        obtain ⟨h1, rfl⟩ := hrow i row hi
        obtain rfl : j = 0 := by
          rcases j with _ | j
          · rfl
          · simp at hj
        have := hcell i (by omega)
        rw [Addr.add_lit] at this
        exact ⟨fun h => h, by rw [Nat.mul_one, Nat.add_zero]; exact this⟩
      · rw [(hrow i row hi).2]; rfl
      · obtain ⟨h1, rfl⟩ := hrow i row hi
        obtain rfl : j = 0 := by
          rcases j with _ | j
          · rfl
          · simp at hj
        injection hj with hj
        subst hj; exact .lit _
    · obtain ⟨z, h1, rfl⟩ := List.mem_map.1 hb
      have := wfu8 (hwz z (List.mem_of_mem_take h1))
      omega
theorem open_Bys {H : Type} {enc : TypeId × Value → H} {w : World} {base : Nat} {held : Bool} {r : Reach} {b0 : Nat} {v : Value} {d : DataW H} {p : List MemPlace}
    (hv : Value.okWide Tryz.prog w r b0 22 v) (h : DataW.Trod enc Tryz.prog w base (fun _ => true) held 22 v d p) : ∃ a n c, v = .slice a n c ∧ Bys w (.slice a n c) n := by
  obtain ⟨a, n, c, rfl⟩ := okWide_slice Tryz.underlying22 hv
  obtain ⟨m, hm⟩ := h
  exact bys_of_read (c := .slice a n c) hm
end Go.Proofs.YtikglhmabidjoaaGreatDoor.Lf
