/-
  No cell of these rows narrows 'for every input' (looked for: loops, veiled, ifaces, maps, wideKeys, modest, calm, conditions, laid).
  DERIVED. THE GIVEN ROWS OF THIS SEAT. 7 by the template 'for every input the law returns true; each argument reads behind the call as it read before'; 0 by the template 'total and deterministic' (their statements: YtfffehmkohcgcaaTotals.lean).
  GIVEN WITH THE SEED: the statements are not yours to turn. If you find one false, say at which input.
  Laid BY PROGRAM, IN A SANDBOX (cutbox-rows.mjs): the forced cells as the released guide's own fill.sh prints them over the translation 02f614690f1ff5c8… (all of the seat's roots in one cut). By AI agents, Wed Nov 11 2026. No macro, syntax, notation, axiom, sorry.
-/
import Derived.Test.YtfffehmkohcgcaaChecked
import GoSem.Claim
import GoSem.ClaimJoined
import GoSem.ClaimMapViews
import Derived.JoinedTies
import Derived.KernelRfl
namespace Go.Proofs.Ytfffehmkohcgcaa
/- THE CELL 'sum', in the pinned program and in every row, IS THE sha256 OF THE DUMP (.gsa) THAT YtfffehmkohcgcaaProg.lean LOADS. Nothing in Lean hashes anything: it is a label: what it is worth is what the hold of that sum in a sandbox is worth. -/
noncomputable def Try.pinned : Pinned := { name := "ytfffehmkohcgcaa", sum := "02f614690f1ff5c8e2269f0deea33d6caf7b87a6a3d45b1554b0d1a41e585fbb", checked := Try.checked }
namespace Rows
def none {H : Type} : Left H := { results := [], args := [] }

/-- 'relucertlaw51.FixedRoundMatchesReference': WHATEVER THE INPUT: true; the input reads as it did. -/
def fixedRoundMatchesReferenceSpec : ChangeSpec := { name := "fixedRoundMatchesReference", fn := fun _ => fun
  | [d1, d2] => { results := [.lit (.bool true)], args := [d1, d2] }
  | _ => none }
def fixedRoundMatchesReferenceRow : OpenClaim := { program := "ytfffehmkohcgcaa", sum := "02f614690f1ff5c8e2269f0deea33d6caf7b87a6a3d45b1554b0d1a41e585fbb", func := "relucert/relucertlaw51.FixedRoundMatchesReference", spec := "fixedRoundMatchesReference", inPlace := ["math/bits.Add64", "math/bits.Sub64"], apart := false }
def FixedRoundMatchesReferenceSaid : Prop := fixedRoundMatchesReferenceRow.holds Try.pinned (OpenSpec.ofChange fixedRoundMatchesReferenceSpec)

/-- ITS FALSE NEIGHBOUR: 'it returns false'. Refute it at one input. -/
def fixedRoundMatchesReferenceWrong : ChangeSpec := { name := "fixedRoundMatchesReference", fn := fun _ => fun
  | [d1, d2] => { results := [.lit (.bool false)], args := [d1, d2] }
  | _ => none }
def FixedRoundMatchesReferenceWrongFalsely : Prop := fixedRoundMatchesReferenceRow.holds Try.pinned (OpenSpec.ofChange fixedRoundMatchesReferenceWrong)

/-- 'relucertlaw51.FixedOrder': WHATEVER THE INPUT: true; the input reads as it did. -/
def fixedOrderSpec : ChangeSpec := { name := "fixedOrder", fn := fun _ => fun
  | [d1, d2, d3] => { results := [.lit (.bool true)], args := [d1, d2, d3] }
  | _ => none }
def fixedOrderRow : OpenClaim := { program := "ytfffehmkohcgcaa", sum := "02f614690f1ff5c8e2269f0deea33d6caf7b87a6a3d45b1554b0d1a41e585fbb", func := "relucert/relucertlaw51.FixedOrder", spec := "fixedOrder", inPlace := ["math/bits.Add64", "math/bits.Sub64"], apart := false }
def FixedOrderSaid : Prop := fixedOrderRow.holds Try.pinned (OpenSpec.ofChange fixedOrderSpec)

/-- ITS FALSE NEIGHBOUR: 'it returns false'. Refute it at one input. -/
def fixedOrderWrong : ChangeSpec := { name := "fixedOrder", fn := fun _ => fun
  | [d1, d2, d3] => { results := [.lit (.bool false)], args := [d1, d2, d3] }
  | _ => none }
def FixedOrderWrongFalsely : Prop := fixedOrderRow.holds Try.pinned (OpenSpec.ofChange fixedOrderWrong)

/-- 'relucertlaw51.FixedScale': WHATEVER THE INPUT: true; the input reads as it did. -/
def fixedScaleSpec : ChangeSpec := { name := "fixedScale", fn := fun _ => fun
  | [d1, d2, d3] => { results := [.lit (.bool true)], args := [d1, d2, d3] }
  | _ => none }
def fixedScaleRow : OpenClaim := { program := "ytfffehmkohcgcaa", sum := "02f614690f1ff5c8e2269f0deea33d6caf7b87a6a3d45b1554b0d1a41e585fbb", func := "relucert/relucertlaw51.FixedScale", spec := "fixedScale", inPlace := ["math/bits.Add64", "math/bits.Sub64"], apart := false }
def FixedScaleSaid : Prop := fixedScaleRow.holds Try.pinned (OpenSpec.ofChange fixedScaleSpec)

/-- ITS FALSE NEIGHBOUR: 'it returns false'. Refute it at one input. -/
def fixedScaleWrong : ChangeSpec := { name := "fixedScale", fn := fun _ => fun
  | [d1, d2, d3] => { results := [.lit (.bool false)], args := [d1, d2, d3] }
  | _ => none }
def FixedScaleWrongFalsely : Prop := fixedScaleRow.holds Try.pinned (OpenSpec.ofChange fixedScaleWrong)

/-- 'relucertlaw51.FixedSaturate': WHATEVER THE INPUT: true; the input reads as it did. -/
def fixedSaturateSpec : ChangeSpec := { name := "fixedSaturate", fn := fun _ => fun
  | [d1, d2] => { results := [.lit (.bool true)], args := [d1, d2] }
  | _ => none }
def fixedSaturateRow : OpenClaim := { program := "ytfffehmkohcgcaa", sum := "02f614690f1ff5c8e2269f0deea33d6caf7b87a6a3d45b1554b0d1a41e585fbb", func := "relucert/relucertlaw51.FixedSaturate", spec := "fixedSaturate", inPlace := ["math/bits.Add64", "math/bits.Sub64"], apart := false }
def FixedSaturateSaid : Prop := fixedSaturateRow.holds Try.pinned (OpenSpec.ofChange fixedSaturateSpec)

/-- ITS FALSE NEIGHBOUR: 'it returns false'. Refute it at one input. -/
def fixedSaturateWrong : ChangeSpec := { name := "fixedSaturate", fn := fun _ => fun
  | [d1, d2] => { results := [.lit (.bool false)], args := [d1, d2] }
  | _ => none }
def FixedSaturateWrongFalsely : Prop := fixedSaturateRow.holds Try.pinned (OpenSpec.ofChange fixedSaturateWrong)

/-- 'relucertlaw51.FixedDot': WHATEVER THE INPUT: true; the input reads as it did. -/
def fixedDotSpec : ChangeSpec := { name := "fixedDot", fn := fun _ => fun
  | [d1, d2, d3] => { results := [.lit (.bool true)], args := [d1, d2, d3] }
  | _ => none }
def fixedDotRow : OpenClaim := { program := "ytfffehmkohcgcaa", sum := "02f614690f1ff5c8e2269f0deea33d6caf7b87a6a3d45b1554b0d1a41e585fbb", func := "relucert/relucertlaw51.FixedDot", spec := "fixedDot", inPlace := ["math/bits.Add64", "math/bits.Sub64"], apart := false }
def FixedDotSaid : Prop := fixedDotRow.holds Try.pinned (OpenSpec.ofChange fixedDotSpec)

/-- ITS FALSE NEIGHBOUR: 'it returns false'. Refute it at one input. -/
def fixedDotWrong : ChangeSpec := { name := "fixedDot", fn := fun _ => fun
  | [d1, d2, d3] => { results := [.lit (.bool false)], args := [d1, d2, d3] }
  | _ => none }
def FixedDotWrongFalsely : Prop := fixedDotRow.holds Try.pinned (OpenSpec.ofChange fixedDotWrong)

/-- 'relucertlaw51.FixedRoundIsNearest': WHATEVER THE INPUT: true; the input reads as it did. -/
def fixedRoundIsNearestSpec : ChangeSpec := { name := "fixedRoundIsNearest", fn := fun _ => fun
  | [d1, d2] => { results := [.lit (.bool true)], args := [d1, d2] }
  | _ => none }
def fixedRoundIsNearestRow : OpenClaim := { program := "ytfffehmkohcgcaa", sum := "02f614690f1ff5c8e2269f0deea33d6caf7b87a6a3d45b1554b0d1a41e585fbb", func := "relucert/relucertlaw51.FixedRoundIsNearest", spec := "fixedRoundIsNearest", inPlace := ["math/bits.Add64", "math/bits.Sub64"], apart := false }
def FixedRoundIsNearestSaid : Prop := fixedRoundIsNearestRow.holds Try.pinned (OpenSpec.ofChange fixedRoundIsNearestSpec)

/-- ITS FALSE NEIGHBOUR: 'it returns false'. Refute it at one input. -/
def fixedRoundIsNearestWrong : ChangeSpec := { name := "fixedRoundIsNearest", fn := fun _ => fun
  | [d1, d2] => { results := [.lit (.bool false)], args := [d1, d2] }
  | _ => none }
def FixedRoundIsNearestWrongFalsely : Prop := fixedRoundIsNearestRow.holds Try.pinned (OpenSpec.ofChange fixedRoundIsNearestWrong)

/-- 'relucertlaw51.FixedRat': WHATEVER THE INPUT: true; the input reads as it did. -/
def fixedRatSpec : ChangeSpec := { name := "fixedRat", fn := fun _ => fun
  | [d1, d2] => { results := [.lit (.bool true)], args := [d1, d2] }
  | _ => none }
def fixedRatRow : OpenClaim := { program := "ytfffehmkohcgcaa", sum := "02f614690f1ff5c8e2269f0deea33d6caf7b87a6a3d45b1554b0d1a41e585fbb", func := "relucert/relucertlaw51.FixedRat", spec := "fixedRat", inPlace := ["math/bits.Add64", "math/bits.Sub64"], apart := false }
def FixedRatSaid : Prop := fixedRatRow.holds Try.pinned (OpenSpec.ofChange fixedRatSpec)

/-- ITS FALSE NEIGHBOUR: 'it returns false'. Refute it at one input. -/
def fixedRatWrong : ChangeSpec := { name := "fixedRat", fn := fun _ => fun
  | [d1, d2] => { results := [.lit (.bool false)], args := [d1, d2] }
  | _ => none }
def FixedRatWrongFalsely : Prop := fixedRatRow.holds Try.pinned (OpenSpec.ofChange fixedRatWrong)

/- THE SECOND FORM. 'bulk': how many values and letters a reading holds, each counted each time it is reached (what is shared counts as often as it is met; a slice's spare places count too). A statement '..UptoSaid' is the law's where the arguments, and the package variables that the reading takes, are together of bulk at most 1048576: NARROWER than '..Said'. Prove '..Said' where nothing that the law and all that it calls make is longer than what came in: it says more and counts as full. Else prove '..UptoSaid'. A law counts once. -/
mutual
def uptoBulk {H : Type} : DataW H → Nat
  | .lit (.string bytes) => bytes.length + 1
  | .lit _ => 1
  | .nil => 1
  | .ptr d => uptoBulk d + 1
  | .slice elems spare => uptoBulkAll elems + uptoBulkAll spare + 1
  | .agg parts => uptoBulkAll parts + 1
  | .iface _ d => uptoBulk d + 1
  | .map entries => uptoBulkEntries entries + 1
  | .held _ => 1
def uptoBulkAll {H : Type} : List (DataW H) → Nat
  | [] => 0
  | d :: r => uptoBulk d + uptoBulkAll r
def uptoBulkEntries {H : Type} : List (Lit × DataW H) → Nat
  | [] => 0
  | x :: r => uptoBulkEntry x + uptoBulkEntries r
def uptoBulkEntry {H : Type} : Lit × DataW H → Nat
  | (.string bytes, d) => bytes.length + uptoBulk d + 1
  | (_, d) => uptoBulk d + 1
 end
def uptoSmall : (H : Type) → List (DataW H) → Bool := fun _ ds => decide (uptoBulkAll ds ≤ 1048576)
def OpenSpec.upto (s : _root_.Go.ChangeSpec) : _root_.Go.OpenSpec := { _root_.Go.OpenSpec.ofChange s with cond := some uptoSmall }

/-- 'relucertlaw51.FixedRoundMatchesReference', WHERE WHAT IT READS IS OF BULK AT MOST 1048576: true; the input reads as it did. -/
def fixedRoundMatchesReferenceUptoRow : OpenClaim := { program := "ytfffehmkohcgcaa", sum := "02f614690f1ff5c8e2269f0deea33d6caf7b87a6a3d45b1554b0d1a41e585fbb", func := "relucert/relucertlaw51.FixedRoundMatchesReference", spec := "fixedRoundMatchesReference", inPlace := ["math/bits.Add64", "math/bits.Sub64"], apart := false, narrowed := true }
def FixedRoundMatchesReferenceUptoSaid : Prop := fixedRoundMatchesReferenceUptoRow.holds Try.pinned (OpenSpec.upto fixedRoundMatchesReferenceSpec)

/-- 'relucertlaw51.FixedOrder', WHERE WHAT IT READS IS OF BULK AT MOST 1048576: true; the input reads as it did. -/
def fixedOrderUptoRow : OpenClaim := { program := "ytfffehmkohcgcaa", sum := "02f614690f1ff5c8e2269f0deea33d6caf7b87a6a3d45b1554b0d1a41e585fbb", func := "relucert/relucertlaw51.FixedOrder", spec := "fixedOrder", inPlace := ["math/bits.Add64", "math/bits.Sub64"], apart := false, narrowed := true }
def FixedOrderUptoSaid : Prop := fixedOrderUptoRow.holds Try.pinned (OpenSpec.upto fixedOrderSpec)

/-- 'relucertlaw51.FixedScale', WHERE WHAT IT READS IS OF BULK AT MOST 1048576: true; the input reads as it did. -/
def fixedScaleUptoRow : OpenClaim := { program := "ytfffehmkohcgcaa", sum := "02f614690f1ff5c8e2269f0deea33d6caf7b87a6a3d45b1554b0d1a41e585fbb", func := "relucert/relucertlaw51.FixedScale", spec := "fixedScale", inPlace := ["math/bits.Add64", "math/bits.Sub64"], apart := false, narrowed := true }
def FixedScaleUptoSaid : Prop := fixedScaleUptoRow.holds Try.pinned (OpenSpec.upto fixedScaleSpec)

/-- 'relucertlaw51.FixedSaturate', WHERE WHAT IT READS IS OF BULK AT MOST 1048576: true; the input reads as it did. -/
def fixedSaturateUptoRow : OpenClaim := { program := "ytfffehmkohcgcaa", sum := "02f614690f1ff5c8e2269f0deea33d6caf7b87a6a3d45b1554b0d1a41e585fbb", func := "relucert/relucertlaw51.FixedSaturate", spec := "fixedSaturate", inPlace := ["math/bits.Add64", "math/bits.Sub64"], apart := false, narrowed := true }
def FixedSaturateUptoSaid : Prop := fixedSaturateUptoRow.holds Try.pinned (OpenSpec.upto fixedSaturateSpec)

/-- 'relucertlaw51.FixedDot', WHERE WHAT IT READS IS OF BULK AT MOST 1048576: true; the input reads as it did. -/
def fixedDotUptoRow : OpenClaim := { program := "ytfffehmkohcgcaa", sum := "02f614690f1ff5c8e2269f0deea33d6caf7b87a6a3d45b1554b0d1a41e585fbb", func := "relucert/relucertlaw51.FixedDot", spec := "fixedDot", inPlace := ["math/bits.Add64", "math/bits.Sub64"], apart := false, narrowed := true }
def FixedDotUptoSaid : Prop := fixedDotUptoRow.holds Try.pinned (OpenSpec.upto fixedDotSpec)

/-- 'relucertlaw51.FixedRoundIsNearest', WHERE WHAT IT READS IS OF BULK AT MOST 1048576: true; the input reads as it did. -/
def fixedRoundIsNearestUptoRow : OpenClaim := { program := "ytfffehmkohcgcaa", sum := "02f614690f1ff5c8e2269f0deea33d6caf7b87a6a3d45b1554b0d1a41e585fbb", func := "relucert/relucertlaw51.FixedRoundIsNearest", spec := "fixedRoundIsNearest", inPlace := ["math/bits.Add64", "math/bits.Sub64"], apart := false, narrowed := true }
def FixedRoundIsNearestUptoSaid : Prop := fixedRoundIsNearestUptoRow.holds Try.pinned (OpenSpec.upto fixedRoundIsNearestSpec)

/-- 'relucertlaw51.FixedRat', WHERE WHAT IT READS IS OF BULK AT MOST 1048576: true; the input reads as it did. -/
def fixedRatUptoRow : OpenClaim := { program := "ytfffehmkohcgcaa", sum := "02f614690f1ff5c8e2269f0deea33d6caf7b87a6a3d45b1554b0d1a41e585fbb", func := "relucert/relucertlaw51.FixedRat", spec := "fixedRat", inPlace := ["math/bits.Add64", "math/bits.Sub64"], apart := false, narrowed := true }
def FixedRatUptoSaid : Prop := fixedRatUptoRow.holds Try.pinned (OpenSpec.upto fixedRatSpec)

end Rows
end Go.Proofs.Ytfffehmkohcgcaa
