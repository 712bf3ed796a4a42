/-
  DERIVED. GIVEN WITH THE SEED: THE CARDS: each row of YtikglhmabidjoaaGreatDoorRows.lean that lists a variable, with what it lists TIED to the program's text (the seventh form; the later family's looks); each row that meets fmt, with fmt's text TOLD by the authors' own Lean function (tested against real Go, not proved from fmt's source: count such statements apart). THE CARD IS WHAT COUNTS. Prove the row's statement (the work); the ties are given (YtikglhmabidjoaaGreatDoorTie.lean); close each card by the builder's one call (the guide's Derived/Test/ToyasCard.lean, 'card_holds'). Laid BY PROGRAM, IN A SANDBOX (cutbox-door.mjs). By AI agents, Wed Nov 11 2026. No macro, syntax, notation, axiom, sorry.
-/
import Derived.Test.YtikglhmabidjoaaGreatDoorRows
import GoSem.ClaimSeven
namespace Go.Proofs.YtikglhmabidjoaaGreatDoor
namespace Rows

/-- THE TIED CARD OF 'relucertlaw38.SplitFits'. -/
def splitFitsCard : Claim7 := { stood := { row := splitFitsRow, standIns := [], harness := (true, "35a30e2dbd3aa380eb62369fb206c4c1d196c578901685e2829c45a781946031"), looks := false }, kinds := [], alts := [], laidByText := true, laidKinds := [.data], laidTests := true, laidLooks := .later }
def SplitFitsCardSaid : Prop := Claim7.holds Tryz.pinned (.plain (OpenSpec.ofChange splitFitsSpec)) splitFitsCard

/-- THE TIED CARD OF 'relucertlaw38.SplitKids'. -/
def splitKidsCard : Claim7 := { stood := { row := splitKidsRow, standIns := [], harness := (true, "35a30e2dbd3aa380eb62369fb206c4c1d196c578901685e2829c45a781946031"), looks := false }, kinds := [], alts := [], laidByText := true, laidKinds := [.data], laidTests := true, laidLooks := .later }
def SplitKidsCardSaid : Prop := Claim7.holds Tryz.pinned (.plain (OpenSpec.ofChange splitKidsSpec)) splitKidsCard

/-- THE TIED CARD OF 'relucertlaw38.SplitCovers'. -/
def splitCoversCard : Claim7 := { stood := { row := splitCoversRow, standIns := [], harness := (true, "35a30e2dbd3aa380eb62369fb206c4c1d196c578901685e2829c45a781946031"), looks := false }, kinds := [], alts := [], laidByText := true, laidKinds := [.data], laidTests := true, laidLooks := .later }
def SplitCoversCardSaid : Prop := Claim7.holds Tryz.pinned (.plain (OpenSpec.ofChange splitCoversSpec)) splitCoversCard

/-- THE TIED CARD OF 'relucertlaw38.SplitEnds'. -/
def splitEndsCard : Claim7 := { stood := { row := splitEndsRow, standIns := [], harness := (true, "35a30e2dbd3aa380eb62369fb206c4c1d196c578901685e2829c45a781946031"), looks := false }, kinds := [], alts := [], laidByText := true, laidKinds := [.data], laidTests := true, laidLooks := .later }
def SplitEndsCardSaid : Prop := Claim7.holds Tryz.pinned (.plain (OpenSpec.ofChange splitEndsSpec)) splitEndsCard

/-- THE SECOND FORM's CARD OF 'relucertlaw38.SplitFits'. -/
def splitFitsUptoCard : Claim7 := { stood := { row := splitFitsUptoRow, standIns := [], harness := (true, "35a30e2dbd3aa380eb62369fb206c4c1d196c578901685e2829c45a781946031"), looks := false }, kinds := [], alts := [], laidByText := true, laidKinds := [.data], laidTests := true, laidLooks := .later }
def SplitFitsUptoCardSaid : Prop := Claim7.holds Tryz.pinned (.plain (OpenSpec.upto splitFitsSpec)) splitFitsUptoCard

/-- THE SECOND FORM's CARD OF 'relucertlaw38.SplitKids'. -/
def splitKidsUptoCard : Claim7 := { stood := { row := splitKidsUptoRow, standIns := [], harness := (true, "35a30e2dbd3aa380eb62369fb206c4c1d196c578901685e2829c45a781946031"), looks := false }, kinds := [], alts := [], laidByText := true, laidKinds := [.data], laidTests := true, laidLooks := .later }
def SplitKidsUptoCardSaid : Prop := Claim7.holds Tryz.pinned (.plain (OpenSpec.upto splitKidsSpec)) splitKidsUptoCard

/-- THE SECOND FORM's CARD OF 'relucertlaw38.SplitCovers'. -/
def splitCoversUptoCard : Claim7 := { stood := { row := splitCoversUptoRow, standIns := [], harness := (true, "35a30e2dbd3aa380eb62369fb206c4c1d196c578901685e2829c45a781946031"), looks := false }, kinds := [], alts := [], laidByText := true, laidKinds := [.data], laidTests := true, laidLooks := .later }
def SplitCoversUptoCardSaid : Prop := Claim7.holds Tryz.pinned (.plain (OpenSpec.upto splitCoversSpec)) splitCoversUptoCard

/-- THE SECOND FORM's CARD OF 'relucertlaw38.SplitEnds'. -/
def splitEndsUptoCard : Claim7 := { stood := { row := splitEndsUptoRow, standIns := [], harness := (true, "35a30e2dbd3aa380eb62369fb206c4c1d196c578901685e2829c45a781946031"), looks := false }, kinds := [], alts := [], laidByText := true, laidKinds := [.data], laidTests := true, laidLooks := .later }
def SplitEndsUptoCardSaid : Prop := Claim7.holds Tryz.pinned (.plain (OpenSpec.upto splitEndsSpec)) splitEndsUptoCard
end Rows
end Go.Proofs.YtikglhmabidjoaaGreatDoor
