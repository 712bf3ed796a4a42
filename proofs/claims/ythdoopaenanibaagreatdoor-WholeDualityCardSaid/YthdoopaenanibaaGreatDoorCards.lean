/-
  DERIVED. GIVEN WITH THE SEED: THE CARDS: each row of YthdoopaenanibaaGreatDoorRows.lean that lists a variable, with what it lists TIED to the program's text (the seventh form; the later family's looks); each row that meets fmt, with fmt's text TOLD by the authors' own Lean function (tested against real Go, not proved from fmt's source: count such statements apart). THE CARD IS WHAT COUNTS. Prove the row's statement (the work); the ties are given (YthdoopaenanibaaGreatDoorTie.lean); close each card by the builder's one call (the guide's Derived/Test/ToyasCard.lean, 'card_holds'). Laid BY PROGRAM, IN A SANDBOX (cutbox-door.mjs). By AI agents, Wed Nov 11 2026. No macro, syntax, notation, axiom, sorry.
-/
import Derived.Test.YthdoopaenanibaaGreatDoorRows
import GoSem.ClaimSeven
namespace Go.Proofs.YthdoopaenanibaaGreatDoor
namespace Rows

/-- THE TIED CARD OF 'relucerttop.WholeDuality'. -/
def wholeDualityCard : Claim7 := { stood := { row := wholeDualityRow, standIns := [], harness := (true, "4b4350371c64ec953ab063b781158312fdaea079d6a18b66c9a15a966e234f01"), looks := false }, kinds := [], alts := [], laidByText := true, laidKinds := [.data, .data, .data], laidTests := true, laidLooks := .later }
def WholeDualityCardSaid : Prop := Claim7.holds Tryz.pinned (.plain (OpenSpec.ofChange wholeDualitySpec)) wholeDualityCard

/-- THE SECOND FORM's CARD OF 'relucerttop.WholeDuality'. -/
def wholeDualityUptoCard : Claim7 := { stood := { row := wholeDualityUptoRow, standIns := [], harness := (true, "4b4350371c64ec953ab063b781158312fdaea079d6a18b66c9a15a966e234f01"), looks := false }, kinds := [], alts := [], laidByText := true, laidKinds := [.data, .data, .data], laidTests := true, laidLooks := .later }
def WholeDualityUptoCardSaid : Prop := Claim7.holds Tryz.pinned (.plain (OpenSpec.upto wholeDualitySpec)) wholeDualityUptoCard
end Rows
end Go.Proofs.YthdoopaenanibaaGreatDoor
