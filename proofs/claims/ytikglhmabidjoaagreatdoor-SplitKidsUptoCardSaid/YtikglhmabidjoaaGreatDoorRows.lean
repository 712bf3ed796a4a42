/-
  NARROWER THAN 'FOR EVERY INPUT', by the rows' own cells (each row's printed sentence says how): SplitFits: laid · SplitKids: laid · SplitCovers: laid · SplitEnds: laid.
  DERIVED. THE GIVEN ROWS OF THIS SEAT. 4 by the template 'for every input the law returns true; each argument reads behind the call as it read before'; 0 by the template 'total and deterministic' (their statements: YtikglhmabidjoaaGreatDoorTotals.lean).
  GIVEN WITH THE SEED: the statements are not yours to turn. If you find one false, say at which input.
  Laid BY PROGRAM, IN A SANDBOX (cutbox-rows.mjs): the forced cells as the released guide's own fill.sh prints them over the translation db800e54a4a14043… (all of the seat's roots in one cut). By AI agents, Wed Nov 11 2026. No macro, syntax, notation, axiom, sorry.
-/
import Derived.Test.YtikglhmabidjoaaGreatDoorChecked
import GoSem.Claim
import GoSem.ClaimJoined
import GoSem.ClaimMapViews
import Derived.JoinedTies
import Derived.KernelRfl
namespace Go.Proofs.YtikglhmabidjoaaGreatDoor
/- THE CELL 'sum', in the pinned program and in every row, IS THE sha256 OF THE DUMP (.gsa) THAT YtikglhmabidjoaaGreatDoorProg.lean LOADS. Nothing in Lean hashes anything: it is a label: what it is worth is what the hold of that sum in a sandbox is worth. -/
noncomputable def Tryz.pinned : Pinned := { name := "ytikglhmabidjoaagreatdoor", sum := "db800e54a4a14043981d9526b308ca8850ef850a6c86d52e45ba4b04bf61b4b7", checked := Tryz.checked }
namespace Rows
def none {H : Type} : Left H := { results := [], args := [] }

/- WHAT THE LISTED PACKAGE-LEVEL VARIABLES READ AS WHEN THE CALL BEGINS. Each datum BY PROGRAM (the guide's laid-datum.mjs) off the statement by which the dump's own 'gosem.cut.vars' lays the variable. In a bare row this is a premise. The card (YtikglhmabidjoaaGreatDoorCards.lean) ties it to the program's text. -/
def laid_relucert_phase_opposites {H : Type} : DataW H := .agg [.lit (.int .i64 0), .lit (.int .i64 2), .lit (.int .i64 1), .lit (.int .i64 4), .lit (.int .i64 3)]

/-- 'relucertlaw38.SplitFits': WHATEVER THE INPUT: true; the input reads as it did. -/
def splitFitsSpec : ChangeSpec := { name := "splitFits", fn := fun _ => fun
  | [d1, d2, d3, d4] => { results := [.lit (.bool true)], args := [d1, d2, d3, d4] }
  | _ => none }
def splitFitsRow : OpenClaim := { program := "ytikglhmabidjoaagreatdoor", sum := "db800e54a4a14043981d9526b308ca8850ef850a6c86d52e45ba4b04bf61b4b7", func := "relucert/relucertlaw38.SplitFits", spec := "splitFits", unfollowed := true, recurses := true, named := ["relucert/phase.opposites"], apart := false, laid := [("relucert/phase.opposites", laid_relucert_phase_opposites)] }
def SplitFitsSaid : Prop := splitFitsRow.holds Tryz.pinned (OpenSpec.ofChange splitFitsSpec)

/-- ITS FALSE NEIGHBOUR: 'it returns false'. Refute it at one input. -/
def splitFitsWrong : ChangeSpec := { name := "splitFits", fn := fun _ => fun
  | [d1, d2, d3, d4] => { results := [.lit (.bool false)], args := [d1, d2, d3, d4] }
  | _ => none }
def SplitFitsWrongFalsely : Prop := splitFitsRow.holds Tryz.pinned (OpenSpec.ofChange splitFitsWrong)

/-- 'relucertlaw38.SplitKids': WHATEVER THE INPUT: true; the input reads as it did. -/
def splitKidsSpec : ChangeSpec := { name := "splitKids", fn := fun _ => fun
  | [d1, d2, d3] => { results := [.lit (.bool true)], args := [d1, d2, d3] }
  | _ => none }
def splitKidsRow : OpenClaim := { program := "ytikglhmabidjoaagreatdoor", sum := "db800e54a4a14043981d9526b308ca8850ef850a6c86d52e45ba4b04bf61b4b7", func := "relucert/relucertlaw38.SplitKids", spec := "splitKids", unfollowed := true, recurses := true, named := ["relucert/phase.opposites"], apart := false, laid := [("relucert/phase.opposites", laid_relucert_phase_opposites)] }
def SplitKidsSaid : Prop := splitKidsRow.holds Tryz.pinned (OpenSpec.ofChange splitKidsSpec)

/-- ITS FALSE NEIGHBOUR: 'it returns false'. Refute it at one input. -/
def splitKidsWrong : ChangeSpec := { name := "splitKids", fn := fun _ => fun
  | [d1, d2, d3] => { results := [.lit (.bool false)], args := [d1, d2, d3] }
  | _ => none }
def SplitKidsWrongFalsely : Prop := splitKidsRow.holds Tryz.pinned (OpenSpec.ofChange splitKidsWrong)

/-- 'relucertlaw38.SplitCovers': WHATEVER THE INPUT: true; the input reads as it did. -/
def splitCoversSpec : ChangeSpec := { name := "splitCovers", fn := fun _ => fun
  | [d1, d2, d3, d4] => { results := [.lit (.bool true)], args := [d1, d2, d3, d4] }
  | _ => none }
def splitCoversRow : OpenClaim := { program := "ytikglhmabidjoaagreatdoor", sum := "db800e54a4a14043981d9526b308ca8850ef850a6c86d52e45ba4b04bf61b4b7", func := "relucert/relucertlaw38.SplitCovers", spec := "splitCovers", unfollowed := true, recurses := true, named := ["relucert/phase.opposites"], apart := false, laid := [("relucert/phase.opposites", laid_relucert_phase_opposites)] }
def SplitCoversSaid : Prop := splitCoversRow.holds Tryz.pinned (OpenSpec.ofChange splitCoversSpec)

/-- ITS FALSE NEIGHBOUR: 'it returns false'. Refute it at one input. -/
def splitCoversWrong : ChangeSpec := { name := "splitCovers", fn := fun _ => fun
  | [d1, d2, d3, d4] => { results := [.lit (.bool false)], args := [d1, d2, d3, d4] }
  | _ => none }
def SplitCoversWrongFalsely : Prop := splitCoversRow.holds Tryz.pinned (OpenSpec.ofChange splitCoversWrong)

/-- 'relucertlaw38.SplitEnds': WHATEVER THE INPUT: true; the input reads as it did. -/
def splitEndsSpec : ChangeSpec := { name := "splitEnds", fn := fun _ => fun
  | [d1, d2, d3] => { results := [.lit (.bool true)], args := [d1, d2, d3] }
  | _ => none }
def splitEndsRow : OpenClaim := { program := "ytikglhmabidjoaagreatdoor", sum := "db800e54a4a14043981d9526b308ca8850ef850a6c86d52e45ba4b04bf61b4b7", func := "relucert/relucertlaw38.SplitEnds", spec := "splitEnds", unfollowed := true, recurses := true, named := ["relucert/phase.opposites"], apart := false, laid := [("relucert/phase.opposites", laid_relucert_phase_opposites)] }
def SplitEndsSaid : Prop := splitEndsRow.holds Tryz.pinned (OpenSpec.ofChange splitEndsSpec)

/-- ITS FALSE NEIGHBOUR: 'it returns false'. Refute it at one input. -/
def splitEndsWrong : ChangeSpec := { name := "splitEnds", fn := fun _ => fun
  | [d1, d2, d3] => { results := [.lit (.bool false)], args := [d1, d2, d3] }
  | _ => none }
def SplitEndsWrongFalsely : Prop := splitEndsRow.holds Tryz.pinned (OpenSpec.ofChange splitEndsWrong)

/- THE SECOND FORM. 'bulk': how many values and letters a reading holds, each counted each time it is reached (what is shared counts as often as it is met; a slice's spare places count too). A statement '..UptoSaid' is the law's where the arguments, and the package variables that the reading takes, are together of bulk at most 1048576: NARROWER than '..Said'. Prove '..Said' where nothing that the law and all that it calls make is longer than what came in: it says more and counts as full. Else prove '..UptoSaid'. A law counts once. -/
mutual
def uptoBulk {H : Type} : DataW H → Nat
  | .lit (.string bytes) => bytes.length + 1
  | .lit _ => 1
  | .nil => 1
  | .ptr d => uptoBulk d + 1
  | .slice elems spare => uptoBulkAll elems + uptoBulkAll spare + 1
  | .agg parts => uptoBulkAll parts + 1
  | .iface _ d => uptoBulk d + 1
  | .map entries => uptoBulkEntries entries + 1
  | .held _ => 1
def uptoBulkAll {H : Type} : List (DataW H) → Nat
  | [] => 0
  | d :: r => uptoBulk d + uptoBulkAll r
def uptoBulkEntries {H : Type} : List (Lit × DataW H) → Nat
  | [] => 0
  | x :: r => uptoBulkEntry x + uptoBulkEntries r
def uptoBulkEntry {H : Type} : Lit × DataW H → Nat
  | (.string bytes, d) => bytes.length + uptoBulk d + 1
  | (_, d) => uptoBulk d + 1
 end
def uptoSmall : (H : Type) → List (DataW H) → Bool := fun _ ds => decide (uptoBulkAll ds ≤ 1048576)
def OpenSpec.upto (s : _root_.Go.ChangeSpec) : _root_.Go.OpenSpec := { _root_.Go.OpenSpec.ofChange s with cond := some uptoSmall }

/-- 'relucertlaw38.SplitFits', WHERE WHAT IT READS IS OF BULK AT MOST 1048576: true; the input reads as it did. -/
def splitFitsUptoRow : OpenClaim := { program := "ytikglhmabidjoaagreatdoor", sum := "db800e54a4a14043981d9526b308ca8850ef850a6c86d52e45ba4b04bf61b4b7", func := "relucert/relucertlaw38.SplitFits", spec := "splitFits", unfollowed := true, recurses := true, named := ["relucert/phase.opposites"], apart := false, laid := [("relucert/phase.opposites", laid_relucert_phase_opposites)], narrowed := true }
def SplitFitsUptoSaid : Prop := splitFitsUptoRow.holds Tryz.pinned (OpenSpec.upto splitFitsSpec)

/-- 'relucertlaw38.SplitKids', WHERE WHAT IT READS IS OF BULK AT MOST 1048576: true; the input reads as it did. -/
def splitKidsUptoRow : OpenClaim := { program := "ytikglhmabidjoaagreatdoor", sum := "db800e54a4a14043981d9526b308ca8850ef850a6c86d52e45ba4b04bf61b4b7", func := "relucert/relucertlaw38.SplitKids", spec := "splitKids", unfollowed := true, recurses := true, named := ["relucert/phase.opposites"], apart := false, laid := [("relucert/phase.opposites", laid_relucert_phase_opposites)], narrowed := true }
def SplitKidsUptoSaid : Prop := splitKidsUptoRow.holds Tryz.pinned (OpenSpec.upto splitKidsSpec)

/-- 'relucertlaw38.SplitCovers', WHERE WHAT IT READS IS OF BULK AT MOST 1048576: true; the input reads as it did. -/
def splitCoversUptoRow : OpenClaim := { program := "ytikglhmabidjoaagreatdoor", sum := "db800e54a4a14043981d9526b308ca8850ef850a6c86d52e45ba4b04bf61b4b7", func := "relucert/relucertlaw38.SplitCovers", spec := "splitCovers", unfollowed := true, recurses := true, named := ["relucert/phase.opposites"], apart := false, laid := [("relucert/phase.opposites", laid_relucert_phase_opposites)], narrowed := true }
def SplitCoversUptoSaid : Prop := splitCoversUptoRow.holds Tryz.pinned (OpenSpec.upto splitCoversSpec)

/-- 'relucertlaw38.SplitEnds', WHERE WHAT IT READS IS OF BULK AT MOST 1048576: true; the input reads as it did. -/
def splitEndsUptoRow : OpenClaim := { program := "ytikglhmabidjoaagreatdoor", sum := "db800e54a4a14043981d9526b308ca8850ef850a6c86d52e45ba4b04bf61b4b7", func := "relucert/relucertlaw38.SplitEnds", spec := "splitEnds", unfollowed := true, recurses := true, named := ["relucert/phase.opposites"], apart := false, laid := [("relucert/phase.opposites", laid_relucert_phase_opposites)], narrowed := true }
def SplitEndsUptoSaid : Prop := splitEndsUptoRow.holds Tryz.pinned (OpenSpec.upto splitEndsSpec)

end Rows
end Go.Proofs.YtikglhmabidjoaaGreatDoor
