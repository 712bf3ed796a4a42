/- Texts LhA of this proof, in this order. -/
import Derived.Test.YtikglhmabidjoaaGreatDoorU07
import Derived.Test.YtikglhmabidjoaaGreatDoorRows
import Derived.Lib.LaidTab
import Derived.OpenShut
import Derived.ShutString
import Derived.ChangeOld
import Derived.ProofKit
import Derived.WalkKit
import Derived.LaidMore
set_option linter.unusedVariables false
set_option linter.unusedSimpArgs false
set_option maxRecDepth 100000
set_option maxHeartbeats 4000000
namespace Go.Proofs.YtikglhmabidjoaaGreatDoor.Lf
open Go.RowKit Go.ChangeShapes Go.WideShapes Nt
theorem gOpp : Tryz.prog.globalNamed "relucert/phase.opposites" = some 0 := by kernel_rfl
theorem glb_of_laid {W : World} (h : laidMetH Tryz.prog [("relucert/phase.opposites", Rows.laid_relucert_phase_opposites)] W) : Glb M0 W := by
 rw [MakeChecks.laidMetH_plain _ _ _ (by kernel_rfl)] at h
 have hT := Lib.tabIs_of_head (k := .i64) (zs := [0, 2, 1, 4, 3]) (rest := []) (W := W) gOpp (t := 133) (by kernel_rfl) Tryz.underlying133 Tryz.underlying3 (by kernel_rfl) (by kernel_rfl) h
 intro g row hg j d hd
 unfold GT at hg
 split at hg
 ·
  injection hg with hg
  subst hg
  have hc : ∀ i, i < 5 → W.cell? ⟨0, i, none⟩ = some (.int .i64 (([0, 2, 1, 4, 3] : List Int).getD i 0)) := fun i hi => hT.cell gOpp i hi
  match j, hd with
  | 0, hd => injection hd with hd; subst hd; exact ⟨_, ⟨fun h => h, hc 0 (by decide)⟩, .lit _⟩
  | 1, hd => injection hd with hd; subst hd; exact ⟨_, ⟨fun h => h, hc 1 (by decide)⟩, .lit _⟩
  | 2, hd => injection hd with hd; subst hd; exact ⟨_, ⟨fun h => h, hc 2 (by decide)⟩, .lit _⟩
  | 3, hd => injection hd with hd; subst hd; exact ⟨_, ⟨fun h => h, hc 3 (by decide)⟩, .lit _⟩
  | 4, hd => injection hd with hd; subst hd; exact ⟨_, ⟨fun h => h, hc 4 (by decide)⟩, .lit _⟩
  | j + 5, hd => simp at hd
 ·
  cases hg
end Go.Proofs.YtikglhmabidjoaaGreatDoor.Lf
