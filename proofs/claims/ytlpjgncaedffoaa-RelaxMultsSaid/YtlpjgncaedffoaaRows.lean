/-
  No cell of these rows narrows 'for every input' (looked for: loops, veiled, ifaces, maps, wideKeys, modest, calm, conditions, laid).
  DERIVED. THE GIVEN ROWS OF THIS SEAT. 7 by the template 'for every input the law returns true; each argument reads behind the call as it read before'; 0 by the template 'total and deterministic' (their statements: YtlpjgncaedffoaaTotals.lean).
  GIVEN WITH THE SEED: the statements are not yours to turn. If you find one false, say at which input.
  Laid BY PROGRAM, IN A SANDBOX (cutbox-rows.mjs): the forced cells as the released guide's own fill.sh prints them over the translation ed05544dce6e856e… (all of the seat's roots in one cut). By AI agents, Wed Nov 11 2026. No macro, syntax, notation, axiom, sorry.
-/
import Derived.Test.YtlpjgncaedffoaaChecked
import GoSem.Claim
import GoSem.ClaimJoined
import GoSem.ClaimMapViews
import Derived.JoinedTies
import Derived.KernelRfl
namespace Go.Proofs.Ytlpjgncaedffoaa
/- THE CELL 'sum', in the pinned program and in every row, IS THE sha256 OF THE DUMP (.gsa) THAT YtlpjgncaedffoaaProg.lean LOADS. Nothing in Lean hashes anything: it is a label: what it is worth is what the hold of that sum in a sandbox is worth. -/
noncomputable def Try.pinned : Pinned := { name := "ytlpjgncaedffoaa", sum := "ed05544dce6e856e9a457f78623b455d03d174de2dc36855d0908c8333c03347", checked := Try.checked }
namespace Rows
def none {H : Type} : Left H := { results := [], args := [] }

/-- 'relucertlaw25.RelaxLines': WHATEVER THE INPUT: true; the input reads as it did. -/
def relaxLinesSpec : ChangeSpec := { name := "relaxLines", fn := fun _ => fun
  | [d1, d2] => { results := [.lit (.bool true)], args := [d1, d2] }
  | _ => none }
def relaxLinesRow : OpenClaim := { program := "ytlpjgncaedffoaa", sum := "ed05544dce6e856e9a457f78623b455d03d174de2dc36855d0908c8333c03347", func := "relucert/relucertlaw25.RelaxLines", spec := "relaxLines", unfollowed := true, recurses := true, apart := false }
def RelaxLinesSaid : Prop := relaxLinesRow.holds Try.pinned (OpenSpec.ofChange relaxLinesSpec)

/-- ITS FALSE NEIGHBOUR: 'it returns false'. Refute it at one input. -/
def relaxLinesWrong : ChangeSpec := { name := "relaxLines", fn := fun _ => fun
  | [d1, d2] => { results := [.lit (.bool false)], args := [d1, d2] }
  | _ => none }
def RelaxLinesWrongFalsely : Prop := relaxLinesRow.holds Try.pinned (OpenSpec.ofChange relaxLinesWrong)

/-- 'relucertlaw25.RelaxArea': WHATEVER THE INPUT: true; the input reads as it did. -/
def relaxAreaSpec : ChangeSpec := { name := "relaxArea", fn := fun _ => fun
  | [d1, d2, d3] => { results := [.lit (.bool true)], args := [d1, d2, d3] }
  | _ => none }
def relaxAreaRow : OpenClaim := { program := "ytlpjgncaedffoaa", sum := "ed05544dce6e856e9a457f78623b455d03d174de2dc36855d0908c8333c03347", func := "relucert/relucertlaw25.RelaxArea", spec := "relaxArea", unfollowed := true, recurses := true, apart := false }
def RelaxAreaSaid : Prop := relaxAreaRow.holds Try.pinned (OpenSpec.ofChange relaxAreaSpec)

/-- ITS FALSE NEIGHBOUR: 'it returns false'. Refute it at one input. -/
def relaxAreaWrong : ChangeSpec := { name := "relaxArea", fn := fun _ => fun
  | [d1, d2, d3] => { results := [.lit (.bool false)], args := [d1, d2, d3] }
  | _ => none }
def RelaxAreaWrongFalsely : Prop := relaxAreaRow.holds Try.pinned (OpenSpec.ofChange relaxAreaWrong)

/-- 'relucertlaw25.RelaxBounds': WHATEVER THE INPUT: true; the input reads as it did. -/
def relaxBoundsSpec : ChangeSpec := { name := "relaxBounds", fn := fun _ => fun
  | [d1, d2, d3, d4] => { results := [.lit (.bool true)], args := [d1, d2, d3, d4] }
  | _ => none }
def relaxBoundsRow : OpenClaim := { program := "ytlpjgncaedffoaa", sum := "ed05544dce6e856e9a457f78623b455d03d174de2dc36855d0908c8333c03347", func := "relucert/relucertlaw25.RelaxBounds", spec := "relaxBounds", unfollowed := true, recurses := true, apart := false }
def RelaxBoundsSaid : Prop := relaxBoundsRow.holds Try.pinned (OpenSpec.ofChange relaxBoundsSpec)

/-- ITS FALSE NEIGHBOUR: 'it returns false'. Refute it at one input. -/
def relaxBoundsWrong : ChangeSpec := { name := "relaxBounds", fn := fun _ => fun
  | [d1, d2, d3, d4] => { results := [.lit (.bool false)], args := [d1, d2, d3, d4] }
  | _ => none }
def RelaxBoundsWrongFalsely : Prop := relaxBoundsRow.holds Try.pinned (OpenSpec.ofChange relaxBoundsWrong)

/-- 'relucertlaw25.RelaxGap': WHATEVER THE INPUT: true; the input reads as it did. -/
def relaxGapSpec : ChangeSpec := { name := "relaxGap", fn := fun _ => fun
  | [d1, d2, d3] => { results := [.lit (.bool true)], args := [d1, d2, d3] }
  | _ => none }
def relaxGapRow : OpenClaim := { program := "ytlpjgncaedffoaa", sum := "ed05544dce6e856e9a457f78623b455d03d174de2dc36855d0908c8333c03347", func := "relucert/relucertlaw25.RelaxGap", spec := "relaxGap", unfollowed := true, recurses := true, apart := false }
def RelaxGapSaid : Prop := relaxGapRow.holds Try.pinned (OpenSpec.ofChange relaxGapSpec)

/-- ITS FALSE NEIGHBOUR: 'it returns false'. Refute it at one input. -/
def relaxGapWrong : ChangeSpec := { name := "relaxGap", fn := fun _ => fun
  | [d1, d2, d3] => { results := [.lit (.bool false)], args := [d1, d2, d3] }
  | _ => none }
def RelaxGapWrongFalsely : Prop := relaxGapRow.holds Try.pinned (OpenSpec.ofChange relaxGapWrong)

/-- 'relucertlaw25.RelaxShrinks': WHATEVER THE INPUT: true; the input reads as it did. -/
def relaxShrinksSpec : ChangeSpec := { name := "relaxShrinks", fn := fun _ => fun
  | [d1, d2, d3, d4, d5] => { results := [.lit (.bool true)], args := [d1, d2, d3, d4, d5] }
  | _ => none }
def relaxShrinksRow : OpenClaim := { program := "ytlpjgncaedffoaa", sum := "ed05544dce6e856e9a457f78623b455d03d174de2dc36855d0908c8333c03347", func := "relucert/relucertlaw25.RelaxShrinks", spec := "relaxShrinks", unfollowed := true, recurses := true, apart := false }
def RelaxShrinksSaid : Prop := relaxShrinksRow.holds Try.pinned (OpenSpec.ofChange relaxShrinksSpec)

/-- ITS FALSE NEIGHBOUR: 'it returns false'. Refute it at one input. -/
def relaxShrinksWrong : ChangeSpec := { name := "relaxShrinks", fn := fun _ => fun
  | [d1, d2, d3, d4, d5] => { results := [.lit (.bool false)], args := [d1, d2, d3, d4, d5] }
  | _ => none }
def RelaxShrinksWrongFalsely : Prop := relaxShrinksRow.holds Try.pinned (OpenSpec.ofChange relaxShrinksWrong)

/-- 'relucertlaw25.RelaxTriangle': WHATEVER THE INPUT: true; the input reads as it did. -/
def relaxTriangleSpec : ChangeSpec := { name := "relaxTriangle", fn := fun _ => fun
  | [d1, d2, d3, d4] => { results := [.lit (.bool true)], args := [d1, d2, d3, d4] }
  | _ => none }
def relaxTriangleRow : OpenClaim := { program := "ytlpjgncaedffoaa", sum := "ed05544dce6e856e9a457f78623b455d03d174de2dc36855d0908c8333c03347", func := "relucert/relucertlaw25.RelaxTriangle", spec := "relaxTriangle", unfollowed := true, recurses := true, apart := false }
def RelaxTriangleSaid : Prop := relaxTriangleRow.holds Try.pinned (OpenSpec.ofChange relaxTriangleSpec)

/-- ITS FALSE NEIGHBOUR: 'it returns false'. Refute it at one input. -/
def relaxTriangleWrong : ChangeSpec := { name := "relaxTriangle", fn := fun _ => fun
  | [d1, d2, d3, d4] => { results := [.lit (.bool false)], args := [d1, d2, d3, d4] }
  | _ => none }
def RelaxTriangleWrongFalsely : Prop := relaxTriangleRow.holds Try.pinned (OpenSpec.ofChange relaxTriangleWrong)

/-- 'relucertlaw25.RelaxMults': WHATEVER THE INPUT: true; the input reads as it did. -/
def relaxMultsSpec : ChangeSpec := { name := "relaxMults", fn := fun _ => fun
  | [d1, d2, d3, d4, d5] => { results := [.lit (.bool true)], args := [d1, d2, d3, d4, d5] }
  | _ => none }
def relaxMultsRow : OpenClaim := { program := "ytlpjgncaedffoaa", sum := "ed05544dce6e856e9a457f78623b455d03d174de2dc36855d0908c8333c03347", func := "relucert/relucertlaw25.RelaxMults", spec := "relaxMults", unfollowed := true, recurses := true, apart := false }
def RelaxMultsSaid : Prop := relaxMultsRow.holds Try.pinned (OpenSpec.ofChange relaxMultsSpec)

/-- ITS FALSE NEIGHBOUR: 'it returns false'. Refute it at one input. -/
def relaxMultsWrong : ChangeSpec := { name := "relaxMults", fn := fun _ => fun
  | [d1, d2, d3, d4, d5] => { results := [.lit (.bool false)], args := [d1, d2, d3, d4, d5] }
  | _ => none }
def RelaxMultsWrongFalsely : Prop := relaxMultsRow.holds Try.pinned (OpenSpec.ofChange relaxMultsWrong)

/- THE SECOND FORM. 'bulk': how many values and letters a reading holds, each counted each time it is reached (what is shared counts as often as it is met; a slice's spare places count too). A statement '..UptoSaid' is the law's where the arguments, and the package variables that the reading takes, are together of bulk at most 1048576: NARROWER than '..Said'. Prove '..Said' where nothing that the law and all that it calls make is longer than what came in: it says more and counts as full. Else prove '..UptoSaid'. A law counts once. -/
mutual
def uptoBulk {H : Type} : DataW H → Nat
  | .lit (.string bytes) => bytes.length + 1
  | .lit _ => 1
  | .nil => 1
  | .ptr d => uptoBulk d + 1
  | .slice elems spare => uptoBulkAll elems + uptoBulkAll spare + 1
  | .agg parts => uptoBulkAll parts + 1
  | .iface _ d => uptoBulk d + 1
  | .map entries => uptoBulkEntries entries + 1
  | .held _ => 1
def uptoBulkAll {H : Type} : List (DataW H) → Nat
  | [] => 0
  | d :: r => uptoBulk d + uptoBulkAll r
def uptoBulkEntries {H : Type} : List (Lit × DataW H) → Nat
  | [] => 0
  | x :: r => uptoBulkEntry x + uptoBulkEntries r
def uptoBulkEntry {H : Type} : Lit × DataW H → Nat
  | (.string bytes, d) => bytes.length + uptoBulk d + 1
  | (_, d) => uptoBulk d + 1
 end
def uptoSmall : (H : Type) → List (DataW H) → Bool := fun _ ds => decide (uptoBulkAll ds ≤ 1048576)
def OpenSpec.upto (s : _root_.Go.ChangeSpec) : _root_.Go.OpenSpec := { _root_.Go.OpenSpec.ofChange s with cond := some uptoSmall }

/-- 'relucertlaw25.RelaxLines', WHERE WHAT IT READS IS OF BULK AT MOST 1048576: true; the input reads as it did. -/
def relaxLinesUptoRow : OpenClaim := { program := "ytlpjgncaedffoaa", sum := "ed05544dce6e856e9a457f78623b455d03d174de2dc36855d0908c8333c03347", func := "relucert/relucertlaw25.RelaxLines", spec := "relaxLines", unfollowed := true, recurses := true, apart := false, narrowed := true }
def RelaxLinesUptoSaid : Prop := relaxLinesUptoRow.holds Try.pinned (OpenSpec.upto relaxLinesSpec)

/-- 'relucertlaw25.RelaxArea', WHERE WHAT IT READS IS OF BULK AT MOST 1048576: true; the input reads as it did. -/
def relaxAreaUptoRow : OpenClaim := { program := "ytlpjgncaedffoaa", sum := "ed05544dce6e856e9a457f78623b455d03d174de2dc36855d0908c8333c03347", func := "relucert/relucertlaw25.RelaxArea", spec := "relaxArea", unfollowed := true, recurses := true, apart := false, narrowed := true }
def RelaxAreaUptoSaid : Prop := relaxAreaUptoRow.holds Try.pinned (OpenSpec.upto relaxAreaSpec)

/-- 'relucertlaw25.RelaxBounds', WHERE WHAT IT READS IS OF BULK AT MOST 1048576: true; the input reads as it did. -/
def relaxBoundsUptoRow : OpenClaim := { program := "ytlpjgncaedffoaa", sum := "ed05544dce6e856e9a457f78623b455d03d174de2dc36855d0908c8333c03347", func := "relucert/relucertlaw25.RelaxBounds", spec := "relaxBounds", unfollowed := true, recurses := true, apart := false, narrowed := true }
def RelaxBoundsUptoSaid : Prop := relaxBoundsUptoRow.holds Try.pinned (OpenSpec.upto relaxBoundsSpec)

/-- 'relucertlaw25.RelaxGap', WHERE WHAT IT READS IS OF BULK AT MOST 1048576: true; the input reads as it did. -/
def relaxGapUptoRow : OpenClaim := { program := "ytlpjgncaedffoaa", sum := "ed05544dce6e856e9a457f78623b455d03d174de2dc36855d0908c8333c03347", func := "relucert/relucertlaw25.RelaxGap", spec := "relaxGap", unfollowed := true, recurses := true, apart := false, narrowed := true }
def RelaxGapUptoSaid : Prop := relaxGapUptoRow.holds Try.pinned (OpenSpec.upto relaxGapSpec)

/-- 'relucertlaw25.RelaxShrinks', WHERE WHAT IT READS IS OF BULK AT MOST 1048576: true; the input reads as it did. -/
def relaxShrinksUptoRow : OpenClaim := { program := "ytlpjgncaedffoaa", sum := "ed05544dce6e856e9a457f78623b455d03d174de2dc36855d0908c8333c03347", func := "relucert/relucertlaw25.RelaxShrinks", spec := "relaxShrinks", unfollowed := true, recurses := true, apart := false, narrowed := true }
def RelaxShrinksUptoSaid : Prop := relaxShrinksUptoRow.holds Try.pinned (OpenSpec.upto relaxShrinksSpec)

/-- 'relucertlaw25.RelaxTriangle', WHERE WHAT IT READS IS OF BULK AT MOST 1048576: true; the input reads as it did. -/
def relaxTriangleUptoRow : OpenClaim := { program := "ytlpjgncaedffoaa", sum := "ed05544dce6e856e9a457f78623b455d03d174de2dc36855d0908c8333c03347", func := "relucert/relucertlaw25.RelaxTriangle", spec := "relaxTriangle", unfollowed := true, recurses := true, apart := false, narrowed := true }
def RelaxTriangleUptoSaid : Prop := relaxTriangleUptoRow.holds Try.pinned (OpenSpec.upto relaxTriangleSpec)

/-- 'relucertlaw25.RelaxMults', WHERE WHAT IT READS IS OF BULK AT MOST 1048576: true; the input reads as it did. -/
def relaxMultsUptoRow : OpenClaim := { program := "ytlpjgncaedffoaa", sum := "ed05544dce6e856e9a457f78623b455d03d174de2dc36855d0908c8333c03347", func := "relucert/relucertlaw25.RelaxMults", spec := "relaxMults", unfollowed := true, recurses := true, apart := false, narrowed := true }
def RelaxMultsUptoSaid : Prop := relaxMultsUptoRow.holds Try.pinned (OpenSpec.upto relaxMultsSpec)

end Rows
end Go.Proofs.Ytlpjgncaedffoaa
