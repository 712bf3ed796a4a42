/-
  DERIVED. GIVEN WITH THE SEED: THE CARDS: each row of YtcnebhohjghngaaGreatDoorRows.lean that lists a variable, with what it lists TIED to the program's text (the seventh form; the later family's looks); each row that meets fmt, with fmt's text TOLD by the authors' own Lean function (tested against real Go, not proved from fmt's source: count such statements apart). THE CARD IS WHAT COUNTS. Prove the row's statement (the work); the ties are given (YtcnebhohjghngaaGreatDoorTie.lean); close each card by the builder's one call (the guide's Derived/Test/ToyasCard.lean, 'card_holds'). Laid BY PROGRAM, IN A SANDBOX (cutbox-door.mjs). By AI agents, Wed Nov 11 2026. No macro, syntax, notation, axiom, sorry.
-/
import Derived.Test.YtcnebhohjghngaaGreatDoorRows
import GoSem.ClaimSeven
namespace Go.Proofs.YtcnebhohjghngaaGreatDoor
namespace Rows

/-- THE TIED CARD OF 'relucerttop.WholeBounds'. -/
def wholeBoundsCard : Claim7 := { stood := { row := wholeBoundsRow, standIns := [], harness := (true, "18e7f409e2b3b5a7cfde5ab64a469ffcc99ebeb53334b968a0ae53bd43f88f30"), looks := false }, kinds := [], alts := [], laidByText := true, laidKinds := [.data], laidTests := true, laidLooks := .later }
def WholeBoundsCardSaid : Prop := Claim7.holds Tryz.pinned (.plain (OpenSpec.ofChange wholeBoundsSpec)) wholeBoundsCard

/-- THE SECOND FORM's CARD OF 'relucerttop.WholeBounds'. -/
def wholeBoundsUptoCard : Claim7 := { stood := { row := wholeBoundsUptoRow, standIns := [], harness := (true, "18e7f409e2b3b5a7cfde5ab64a469ffcc99ebeb53334b968a0ae53bd43f88f30"), looks := false }, kinds := [], alts := [], laidByText := true, laidKinds := [.data], laidTests := true, laidLooks := .later }
def WholeBoundsUptoCardSaid : Prop := Claim7.holds Tryz.pinned (.plain (OpenSpec.upto wholeBoundsSpec)) wholeBoundsUptoCard
end Rows
end Go.Proofs.YtcnebhohjghngaaGreatDoor
