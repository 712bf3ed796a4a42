/-
  DERIVED. GIVEN WITH THE SEED: THE CARDS: each row of YtbegidaaiajffaaGreatDoorRows.lean that lists a variable, with what it lists TIED to the program's text (the seventh form; the later family's looks); each row that meets fmt, with fmt's text TOLD by the authors' own Lean function (tested against real Go, not proved from fmt's source: count such statements apart). THE CARD IS WHAT COUNTS. Prove the row's statement (the work); the ties are given (YtbegidaaiajffaaGreatDoorTie.lean); close each card by the builder's one call (the guide's Derived/Test/ToyasCard.lean, 'card_holds'). Laid BY PROGRAM, IN A SANDBOX (cutbox-door.mjs). By AI agents, Wed Nov 11 2026. No macro, syntax, notation, axiom, sorry.
-/
import Derived.Test.YtbegidaaiajffaaGreatDoorRows
import GoSem.ClaimSeven
namespace Go.Proofs.YtbegidaaiajffaaGreatDoor
namespace Rows

/-- THE TIED CARD OF 'relucerttop.WholeFunction'. -/
def wholeFunctionCard : Claim7 := { stood := { row := wholeFunctionRow, standIns := [], harness := (true, "5e43ae08d8cb668898e1436d2f2d4e15125b7ac0ebf8e7c2638d4caf4c9fa4ee"), looks := false }, kinds := [], alts := [], laidByText := true, laidKinds := [.data, .data, .data], laidTests := true, laidLooks := .later }
def WholeFunctionCardSaid : Prop := Claim7.holds Tryz.pinned (.plain (OpenSpec.ofChange wholeFunctionSpec)) wholeFunctionCard

/-- THE TIED CARD OF 'relucerttop.WholePieces'. -/
def wholePiecesCard : Claim7 := { stood := { row := wholePiecesRow, standIns := [], harness := (true, "5e43ae08d8cb668898e1436d2f2d4e15125b7ac0ebf8e7c2638d4caf4c9fa4ee"), looks := false }, kinds := [], alts := [], laidByText := true, laidKinds := [.data, .data, .data], laidTests := true, laidLooks := .later }
def WholePiecesCardSaid : Prop := Claim7.holds Tryz.pinned (.plain (OpenSpec.ofChange wholePiecesSpec)) wholePiecesCard

/-- THE SECOND FORM's CARD OF 'relucerttop.WholeFunction'. -/
def wholeFunctionUptoCard : Claim7 := { stood := { row := wholeFunctionUptoRow, standIns := [], harness := (true, "5e43ae08d8cb668898e1436d2f2d4e15125b7ac0ebf8e7c2638d4caf4c9fa4ee"), looks := false }, kinds := [], alts := [], laidByText := true, laidKinds := [.data, .data, .data], laidTests := true, laidLooks := .later }
def WholeFunctionUptoCardSaid : Prop := Claim7.holds Tryz.pinned (.plain (OpenSpec.upto wholeFunctionSpec)) wholeFunctionUptoCard

/-- THE SECOND FORM's CARD OF 'relucerttop.WholePieces'. -/
def wholePiecesUptoCard : Claim7 := { stood := { row := wholePiecesUptoRow, standIns := [], harness := (true, "5e43ae08d8cb668898e1436d2f2d4e15125b7ac0ebf8e7c2638d4caf4c9fa4ee"), looks := false }, kinds := [], alts := [], laidByText := true, laidKinds := [.data, .data, .data], laidTests := true, laidLooks := .later }
def WholePiecesUptoCardSaid : Prop := Claim7.holds Tryz.pinned (.plain (OpenSpec.upto wholePiecesSpec)) wholePiecesUptoCard
end Rows
end Go.Proofs.YtbegidaaiajffaaGreatDoor
