/-
  No cell of these rows narrows 'for every input' (looked for: loops, veiled, ifaces, maps, wideKeys, modest, calm, conditions, laid).
  DERIVED. THE GIVEN ROWS OF THIS SEAT. 3 by the template 'for every input the law returns true; each argument reads behind the call as it read before'; 0 by the template 'total and deterministic' (their statements: YtikglhmabidjoaaGreatTotals.lean).
  GIVEN WITH THE SEED: the statements are not yours to turn. If you find one false, say at which input.
  Laid BY PROGRAM, IN A SANDBOX (cutbox-rows.mjs): the forced cells as the released guide's own fill.sh prints them over the translation 5c078373d3e66c2b… (all of the seat's roots in one cut). By AI agents, Wed Nov 11 2026. No macro, syntax, notation, axiom, sorry.
-/
import Derived.Test.YtikglhmabidjoaaGreatChecked
import GoSem.Claim
import GoSem.ClaimJoined
import GoSem.ClaimMapViews
import Derived.JoinedTies
import Derived.KernelRfl
namespace Go.Proofs.YtikglhmabidjoaaGreat
/- THE CELL 'sum', in the pinned program and in every row, IS THE sha256 OF THE DUMP (.gsa) THAT YtikglhmabidjoaaGreatProg.lean LOADS. Nothing in Lean hashes anything: it is a label: what it is worth is what the hold of that sum in a sandbox is worth. -/
noncomputable def Tryz.pinned : Pinned := { name := "ytikglhmabidjoaagreat", sum := "5c078373d3e66c2b18ff204d9dd4901adaa28bcef55013cd9bdc9e15e4f3421c", checked := Tryz.checked }
namespace Rows
def none {H : Type} : Left H := { results := [], args := [] }

/-- 'relucertlaw38.SplitOpen': WHATEVER THE INPUT: true; the input reads as it did. -/
def splitOpenSpec : ChangeSpec := { name := "splitOpen", fn := fun _ => fun
  | [d1, d2, d3] => { results := [.lit (.bool true)], args := [d1, d2, d3] }
  | _ => none }
def splitOpenRow : OpenClaim := { program := "ytikglhmabidjoaagreat", sum := "5c078373d3e66c2b18ff204d9dd4901adaa28bcef55013cd9bdc9e15e4f3421c", func := "relucert/relucertlaw38.SplitOpen", spec := "splitOpen", unfollowed := true, recurses := true, apart := false }
def SplitOpenSaid : Prop := splitOpenRow.holds Tryz.pinned (OpenSpec.ofChange splitOpenSpec)

/-- ITS FALSE NEIGHBOUR: 'it returns false'. Refute it at one input. -/
def splitOpenWrong : ChangeSpec := { name := "splitOpen", fn := fun _ => fun
  | [d1, d2, d3] => { results := [.lit (.bool false)], args := [d1, d2, d3] }
  | _ => none }
def SplitOpenWrongFalsely : Prop := splitOpenRow.holds Tryz.pinned (OpenSpec.ofChange splitOpenWrong)

/-- 'relucertlaw38.SplitBox': WHATEVER THE INPUT: true; the input reads as it did. -/
def splitBoxSpec : ChangeSpec := { name := "splitBox", fn := fun _ => fun
  | [d1, d2] => { results := [.lit (.bool true)], args := [d1, d2] }
  | _ => none }
def splitBoxRow : OpenClaim := { program := "ytikglhmabidjoaagreat", sum := "5c078373d3e66c2b18ff204d9dd4901adaa28bcef55013cd9bdc9e15e4f3421c", func := "relucert/relucertlaw38.SplitBox", spec := "splitBox", unfollowed := true, recurses := true, apart := false }
def SplitBoxSaid : Prop := splitBoxRow.holds Tryz.pinned (OpenSpec.ofChange splitBoxSpec)

/-- ITS FALSE NEIGHBOUR: 'it returns false'. Refute it at one input. -/
def splitBoxWrong : ChangeSpec := { name := "splitBox", fn := fun _ => fun
  | [d1, d2] => { results := [.lit (.bool false)], args := [d1, d2] }
  | _ => none }
def SplitBoxWrongFalsely : Prop := splitBoxRow.holds Tryz.pinned (OpenSpec.ofChange splitBoxWrong)

/-- 'relucertlaw38.SplitChoose': WHATEVER THE INPUT: true; the input reads as it did. -/
def splitChooseSpec : ChangeSpec := { name := "splitChoose", fn := fun _ => fun
  | [d1, d2, d3, d4, d5] => { results := [.lit (.bool true)], args := [d1, d2, d3, d4, d5] }
  | _ => none }
def splitChooseRow : OpenClaim := { program := "ytikglhmabidjoaagreat", sum := "5c078373d3e66c2b18ff204d9dd4901adaa28bcef55013cd9bdc9e15e4f3421c", func := "relucert/relucertlaw38.SplitChoose", spec := "splitChoose", unfollowed := true, recurses := true, apart := false }
def SplitChooseSaid : Prop := splitChooseRow.holds Tryz.pinned (OpenSpec.ofChange splitChooseSpec)

/-- ITS FALSE NEIGHBOUR: 'it returns false'. Refute it at one input. -/
def splitChooseWrong : ChangeSpec := { name := "splitChoose", fn := fun _ => fun
  | [d1, d2, d3, d4, d5] => { results := [.lit (.bool false)], args := [d1, d2, d3, d4, d5] }
  | _ => none }
def SplitChooseWrongFalsely : Prop := splitChooseRow.holds Tryz.pinned (OpenSpec.ofChange splitChooseWrong)

/- THE SECOND FORM. 'bulk': how many values and letters a reading holds, each counted each time it is reached (what is shared counts as often as it is met; a slice's spare places count too). A statement '..UptoSaid' is the law's where the arguments, and the package variables that the reading takes, are together of bulk at most 1048576: NARROWER than '..Said'. Prove '..Said' where nothing that the law and all that it calls make is longer than what came in: it says more and counts as full. Else prove '..UptoSaid'. A law counts once. -/
mutual
def uptoBulk {H : Type} : DataW H → Nat
  | .lit (.string bytes) => bytes.length + 1
  | .lit _ => 1
  | .nil => 1
  | .ptr d => uptoBulk d + 1
  | .slice elems spare => uptoBulkAll elems + uptoBulkAll spare + 1
  | .agg parts => uptoBulkAll parts + 1
  | .iface _ d => uptoBulk d + 1
  | .map entries => uptoBulkEntries entries + 1
  | .held _ => 1
def uptoBulkAll {H : Type} : List (DataW H) → Nat
  | [] => 0
  | d :: r => uptoBulk d + uptoBulkAll r
def uptoBulkEntries {H : Type} : List (Lit × DataW H) → Nat
  | [] => 0
  | x :: r => uptoBulkEntry x + uptoBulkEntries r
def uptoBulkEntry {H : Type} : Lit × DataW H → Nat
  | (.string bytes, d) => bytes.length + uptoBulk d + 1
  | (_, d) => uptoBulk d + 1
 end
def uptoSmall : (H : Type) → List (DataW H) → Bool := fun _ ds => decide (uptoBulkAll ds ≤ 1048576)
def OpenSpec.upto (s : _root_.Go.ChangeSpec) : _root_.Go.OpenSpec := { _root_.Go.OpenSpec.ofChange s with cond := some uptoSmall }

/-- 'relucertlaw38.SplitOpen', WHERE WHAT IT READS IS OF BULK AT MOST 1048576: true; the input reads as it did. -/
def splitOpenUptoRow : OpenClaim := { program := "ytikglhmabidjoaagreat", sum := "5c078373d3e66c2b18ff204d9dd4901adaa28bcef55013cd9bdc9e15e4f3421c", func := "relucert/relucertlaw38.SplitOpen", spec := "splitOpen", unfollowed := true, recurses := true, apart := false, narrowed := true }
def SplitOpenUptoSaid : Prop := splitOpenUptoRow.holds Tryz.pinned (OpenSpec.upto splitOpenSpec)

/-- 'relucertlaw38.SplitBox', WHERE WHAT IT READS IS OF BULK AT MOST 1048576: true; the input reads as it did. -/
def splitBoxUptoRow : OpenClaim := { program := "ytikglhmabidjoaagreat", sum := "5c078373d3e66c2b18ff204d9dd4901adaa28bcef55013cd9bdc9e15e4f3421c", func := "relucert/relucertlaw38.SplitBox", spec := "splitBox", unfollowed := true, recurses := true, apart := false, narrowed := true }
def SplitBoxUptoSaid : Prop := splitBoxUptoRow.holds Tryz.pinned (OpenSpec.upto splitBoxSpec)

/-- 'relucertlaw38.SplitChoose', WHERE WHAT IT READS IS OF BULK AT MOST 1048576: true; the input reads as it did. -/
def splitChooseUptoRow : OpenClaim := { program := "ytikglhmabidjoaagreat", sum := "5c078373d3e66c2b18ff204d9dd4901adaa28bcef55013cd9bdc9e15e4f3421c", func := "relucert/relucertlaw38.SplitChoose", spec := "splitChoose", unfollowed := true, recurses := true, apart := false, narrowed := true }
def SplitChooseUptoSaid : Prop := splitChooseUptoRow.holds Tryz.pinned (OpenSpec.upto splitChooseSpec)

end Rows
end Go.Proofs.YtikglhmabidjoaaGreat
