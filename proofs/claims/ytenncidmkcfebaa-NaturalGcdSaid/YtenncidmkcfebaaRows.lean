/-
  No cell of these rows narrows 'for every input' (looked for: loops, veiled, ifaces, maps, wideKeys, modest, calm, conditions, laid).
  DERIVED. THE GIVEN ROWS OF THIS SEAT. 9 by the template 'for every input the law returns true; each argument reads behind the call as it read before'; 0 by the template 'total and deterministic' (their statements: YtenncidmkcfebaaTotals.lean).
  GIVEN WITH THE SEED: the statements are not yours to turn. If you find one false, say at which input.
  Laid BY PROGRAM, IN A SANDBOX (cutbox-rows.mjs): the forced cells as the released guide's own fill.sh prints them over the translation 7150be80b0a99c3f… (all of the seat's roots in one cut). By AI agents, Wed Nov 11 2026. No macro, syntax, notation, axiom, sorry.
-/
import Derived.Test.YtenncidmkcfebaaChecked
import GoSem.Claim
import GoSem.ClaimJoined
import GoSem.ClaimMapViews
import Derived.JoinedTies
import Derived.KernelRfl
namespace Go.Proofs.Ytenncidmkcfebaa
/- THE CELL 'sum', in the pinned program and in every row, IS THE sha256 OF THE DUMP (.gsa) THAT YtenncidmkcfebaaProg.lean LOADS. Nothing in Lean hashes anything: it is a label: what it is worth is what the hold of that sum in a sandbox is worth. -/
noncomputable def Try.pinned : Pinned := { name := "ytenncidmkcfebaa", sum := "7150be80b0a99c3fb721be8aeb272d72d3d2c093b8daa942e439e8dfb9adf05b", checked := Try.checked }
namespace Rows
def none {H : Type} : Left H := { results := [], args := [] }

/-- 'relucertlaw01.NaturalGcd': WHATEVER THE INPUT: true; the input reads as it did. -/
def naturalGcdSpec : ChangeSpec := { name := "naturalGcd", fn := fun _ => fun
  | [d1, d2, d3] => { results := [.lit (.bool true)], args := [d1, d2, d3] }
  | _ => none }
def naturalGcdRow : OpenClaim := { program := "ytenncidmkcfebaa", sum := "7150be80b0a99c3fb721be8aeb272d72d3d2c093b8daa942e439e8dfb9adf05b", func := "relucert/relucertlaw01.NaturalGcd", spec := "naturalGcd", apart := false }
def NaturalGcdSaid : Prop := naturalGcdRow.holds Try.pinned (OpenSpec.ofChange naturalGcdSpec)

/-- ITS FALSE NEIGHBOUR: 'it returns false'. Refute it at one input. -/
def naturalGcdWrong : ChangeSpec := { name := "naturalGcd", fn := fun _ => fun
  | [d1, d2, d3] => { results := [.lit (.bool false)], args := [d1, d2, d3] }
  | _ => none }
def NaturalGcdWrongFalsely : Prop := naturalGcdRow.holds Try.pinned (OpenSpec.ofChange naturalGcdWrong)

/-- 'relucertlaw01.NaturalMake': WHATEVER THE INPUT: true; the input reads as it did. -/
def naturalMakeSpec : ChangeSpec := { name := "naturalMake", fn := fun _ => fun
  | [d1, d2] => { results := [.lit (.bool true)], args := [d1, d2] }
  | _ => none }
def naturalMakeRow : OpenClaim := { program := "ytenncidmkcfebaa", sum := "7150be80b0a99c3fb721be8aeb272d72d3d2c093b8daa942e439e8dfb9adf05b", func := "relucert/relucertlaw01.NaturalMake", spec := "naturalMake", apart := false }
def NaturalMakeSaid : Prop := naturalMakeRow.holds Try.pinned (OpenSpec.ofChange naturalMakeSpec)

/-- ITS FALSE NEIGHBOUR: 'it returns false'. Refute it at one input. -/
def naturalMakeWrong : ChangeSpec := { name := "naturalMake", fn := fun _ => fun
  | [d1, d2] => { results := [.lit (.bool false)], args := [d1, d2] }
  | _ => none }
def NaturalMakeWrongFalsely : Prop := naturalMakeRow.holds Try.pinned (OpenSpec.ofChange naturalMakeWrong)

/-- 'relucertlaw01.NaturalDivide': WHATEVER THE INPUT: true; the input reads as it did. -/
def naturalDivideSpec : ChangeSpec := { name := "naturalDivide", fn := fun _ => fun
  | [d1, d2] => { results := [.lit (.bool true)], args := [d1, d2] }
  | _ => none }
def naturalDivideRow : OpenClaim := { program := "ytenncidmkcfebaa", sum := "7150be80b0a99c3fb721be8aeb272d72d3d2c093b8daa942e439e8dfb9adf05b", func := "relucert/relucertlaw01.NaturalDivide", spec := "naturalDivide", apart := false }
def NaturalDivideSaid : Prop := naturalDivideRow.holds Try.pinned (OpenSpec.ofChange naturalDivideSpec)

/-- ITS FALSE NEIGHBOUR: 'it returns false'. Refute it at one input. -/
def naturalDivideWrong : ChangeSpec := { name := "naturalDivide", fn := fun _ => fun
  | [d1, d2] => { results := [.lit (.bool false)], args := [d1, d2] }
  | _ => none }
def NaturalDivideWrongFalsely : Prop := naturalDivideRow.holds Try.pinned (OpenSpec.ofChange naturalDivideWrong)

/-- 'relucertlaw01.NaturalCompare': WHATEVER THE INPUT: true; the input reads as it did. -/
def naturalCompareSpec : ChangeSpec := { name := "naturalCompare", fn := fun _ => fun
  | [d1, d2, d3] => { results := [.lit (.bool true)], args := [d1, d2, d3] }
  | _ => none }
def naturalCompareRow : OpenClaim := { program := "ytenncidmkcfebaa", sum := "7150be80b0a99c3fb721be8aeb272d72d3d2c093b8daa942e439e8dfb9adf05b", func := "relucert/relucertlaw01.NaturalCompare", spec := "naturalCompare", apart := false }
def NaturalCompareSaid : Prop := naturalCompareRow.holds Try.pinned (OpenSpec.ofChange naturalCompareSpec)

/-- ITS FALSE NEIGHBOUR: 'it returns false'. Refute it at one input. -/
def naturalCompareWrong : ChangeSpec := { name := "naturalCompare", fn := fun _ => fun
  | [d1, d2, d3] => { results := [.lit (.bool false)], args := [d1, d2, d3] }
  | _ => none }
def NaturalCompareWrongFalsely : Prop := naturalCompareRow.holds Try.pinned (OpenSpec.ofChange naturalCompareWrong)

/-- 'relucertlaw01.NaturalAdd': WHATEVER THE INPUT: true; the input reads as it did. -/
def naturalAddSpec : ChangeSpec := { name := "naturalAdd", fn := fun _ => fun
  | [d1, d2, d3] => { results := [.lit (.bool true)], args := [d1, d2, d3] }
  | _ => none }
def naturalAddRow : OpenClaim := { program := "ytenncidmkcfebaa", sum := "7150be80b0a99c3fb721be8aeb272d72d3d2c093b8daa942e439e8dfb9adf05b", func := "relucert/relucertlaw01.NaturalAdd", spec := "naturalAdd", apart := false }
def NaturalAddSaid : Prop := naturalAddRow.holds Try.pinned (OpenSpec.ofChange naturalAddSpec)

/-- ITS FALSE NEIGHBOUR: 'it returns false'. Refute it at one input. -/
def naturalAddWrong : ChangeSpec := { name := "naturalAdd", fn := fun _ => fun
  | [d1, d2, d3] => { results := [.lit (.bool false)], args := [d1, d2, d3] }
  | _ => none }
def NaturalAddWrongFalsely : Prop := naturalAddRow.holds Try.pinned (OpenSpec.ofChange naturalAddWrong)

/-- 'relucertlaw01.NaturalSub': WHATEVER THE INPUT: true; the input reads as it did. -/
def naturalSubSpec : ChangeSpec := { name := "naturalSub", fn := fun _ => fun
  | [d1, d2] => { results := [.lit (.bool true)], args := [d1, d2] }
  | _ => none }
def naturalSubRow : OpenClaim := { program := "ytenncidmkcfebaa", sum := "7150be80b0a99c3fb721be8aeb272d72d3d2c093b8daa942e439e8dfb9adf05b", func := "relucert/relucertlaw01.NaturalSub", spec := "naturalSub", apart := false }
def NaturalSubSaid : Prop := naturalSubRow.holds Try.pinned (OpenSpec.ofChange naturalSubSpec)

/-- ITS FALSE NEIGHBOUR: 'it returns false'. Refute it at one input. -/
def naturalSubWrong : ChangeSpec := { name := "naturalSub", fn := fun _ => fun
  | [d1, d2] => { results := [.lit (.bool false)], args := [d1, d2] }
  | _ => none }
def NaturalSubWrongFalsely : Prop := naturalSubRow.holds Try.pinned (OpenSpec.ofChange naturalSubWrong)

/-- 'relucertlaw01.NaturalShift': WHATEVER THE INPUT: true; the input reads as it did. -/
def naturalShiftSpec : ChangeSpec := { name := "naturalShift", fn := fun _ => fun
  | [d1, d2] => { results := [.lit (.bool true)], args := [d1, d2] }
  | _ => none }
def naturalShiftRow : OpenClaim := { program := "ytenncidmkcfebaa", sum := "7150be80b0a99c3fb721be8aeb272d72d3d2c093b8daa942e439e8dfb9adf05b", func := "relucert/relucertlaw01.NaturalShift", spec := "naturalShift", apart := false }
def NaturalShiftSaid : Prop := naturalShiftRow.holds Try.pinned (OpenSpec.ofChange naturalShiftSpec)

/-- ITS FALSE NEIGHBOUR: 'it returns false'. Refute it at one input. -/
def naturalShiftWrong : ChangeSpec := { name := "naturalShift", fn := fun _ => fun
  | [d1, d2] => { results := [.lit (.bool false)], args := [d1, d2] }
  | _ => none }
def NaturalShiftWrongFalsely : Prop := naturalShiftRow.holds Try.pinned (OpenSpec.ofChange naturalShiftWrong)

/-- 'relucertlaw01.NaturalMul': WHATEVER THE INPUT: true; the input reads as it did. -/
def naturalMulSpec : ChangeSpec := { name := "naturalMul", fn := fun _ => fun
  | [d1, d2, d3] => { results := [.lit (.bool true)], args := [d1, d2, d3] }
  | _ => none }
def naturalMulRow : OpenClaim := { program := "ytenncidmkcfebaa", sum := "7150be80b0a99c3fb721be8aeb272d72d3d2c093b8daa942e439e8dfb9adf05b", func := "relucert/relucertlaw01.NaturalMul", spec := "naturalMul", apart := false }
def NaturalMulSaid : Prop := naturalMulRow.holds Try.pinned (OpenSpec.ofChange naturalMulSpec)

/-- ITS FALSE NEIGHBOUR: 'it returns false'. Refute it at one input. -/
def naturalMulWrong : ChangeSpec := { name := "naturalMul", fn := fun _ => fun
  | [d1, d2, d3] => { results := [.lit (.bool false)], args := [d1, d2, d3] }
  | _ => none }
def NaturalMulWrongFalsely : Prop := naturalMulRow.holds Try.pinned (OpenSpec.ofChange naturalMulWrong)

/-- 'relucertlaw01.NaturalDivides': WHATEVER THE INPUT: true; the input reads as it did. -/
def naturalDividesSpec : ChangeSpec := { name := "naturalDivides", fn := fun _ => fun
  | [d1, d2, d3] => { results := [.lit (.bool true)], args := [d1, d2, d3] }
  | _ => none }
def naturalDividesRow : OpenClaim := { program := "ytenncidmkcfebaa", sum := "7150be80b0a99c3fb721be8aeb272d72d3d2c093b8daa942e439e8dfb9adf05b", func := "relucert/relucertlaw01.NaturalDivides", spec := "naturalDivides", apart := false }
def NaturalDividesSaid : Prop := naturalDividesRow.holds Try.pinned (OpenSpec.ofChange naturalDividesSpec)

/-- ITS FALSE NEIGHBOUR: 'it returns false'. Refute it at one input. -/
def naturalDividesWrong : ChangeSpec := { name := "naturalDivides", fn := fun _ => fun
  | [d1, d2, d3] => { results := [.lit (.bool false)], args := [d1, d2, d3] }
  | _ => none }
def NaturalDividesWrongFalsely : Prop := naturalDividesRow.holds Try.pinned (OpenSpec.ofChange naturalDividesWrong)

/- THE SECOND FORM. 'bulk': how many values and letters a reading holds, each counted each time it is reached (what is shared counts as often as it is met; a slice's spare places count too). A statement '..UptoSaid' is the law's where the arguments, and the package variables that the reading takes, are together of bulk at most 1048576: NARROWER than '..Said'. Prove '..Said' where nothing that the law and all that it calls make is longer than what came in: it says more and counts as full. Else prove '..UptoSaid'. A law counts once. -/
mutual
def uptoBulk {H : Type} : DataW H → Nat
  | .lit (.string bytes) => bytes.length + 1
  | .lit _ => 1
  | .nil => 1
  | .ptr d => uptoBulk d + 1
  | .slice elems spare => uptoBulkAll elems + uptoBulkAll spare + 1
  | .agg parts => uptoBulkAll parts + 1
  | .iface _ d => uptoBulk d + 1
  | .map entries => uptoBulkEntries entries + 1
  | .held _ => 1
def uptoBulkAll {H : Type} : List (DataW H) → Nat
  | [] => 0
  | d :: r => uptoBulk d + uptoBulkAll r
def uptoBulkEntries {H : Type} : List (Lit × DataW H) → Nat
  | [] => 0
  | x :: r => uptoBulkEntry x + uptoBulkEntries r
def uptoBulkEntry {H : Type} : Lit × DataW H → Nat
  | (.string bytes, d) => bytes.length + uptoBulk d + 1
  | (_, d) => uptoBulk d + 1
 end
def uptoSmall : (H : Type) → List (DataW H) → Bool := fun _ ds => decide (uptoBulkAll ds ≤ 1048576)
def OpenSpec.upto (s : _root_.Go.ChangeSpec) : _root_.Go.OpenSpec := { _root_.Go.OpenSpec.ofChange s with cond := some uptoSmall }

/-- 'relucertlaw01.NaturalGcd', WHERE WHAT IT READS IS OF BULK AT MOST 1048576: true; the input reads as it did. -/
def naturalGcdUptoRow : OpenClaim := { program := "ytenncidmkcfebaa", sum := "7150be80b0a99c3fb721be8aeb272d72d3d2c093b8daa942e439e8dfb9adf05b", func := "relucert/relucertlaw01.NaturalGcd", spec := "naturalGcd", apart := false, narrowed := true }
def NaturalGcdUptoSaid : Prop := naturalGcdUptoRow.holds Try.pinned (OpenSpec.upto naturalGcdSpec)

/-- 'relucertlaw01.NaturalMake', WHERE WHAT IT READS IS OF BULK AT MOST 1048576: true; the input reads as it did. -/
def naturalMakeUptoRow : OpenClaim := { program := "ytenncidmkcfebaa", sum := "7150be80b0a99c3fb721be8aeb272d72d3d2c093b8daa942e439e8dfb9adf05b", func := "relucert/relucertlaw01.NaturalMake", spec := "naturalMake", apart := false, narrowed := true }
def NaturalMakeUptoSaid : Prop := naturalMakeUptoRow.holds Try.pinned (OpenSpec.upto naturalMakeSpec)

/-- 'relucertlaw01.NaturalDivide', WHERE WHAT IT READS IS OF BULK AT MOST 1048576: true; the input reads as it did. -/
def naturalDivideUptoRow : OpenClaim := { program := "ytenncidmkcfebaa", sum := "7150be80b0a99c3fb721be8aeb272d72d3d2c093b8daa942e439e8dfb9adf05b", func := "relucert/relucertlaw01.NaturalDivide", spec := "naturalDivide", apart := false, narrowed := true }
def NaturalDivideUptoSaid : Prop := naturalDivideUptoRow.holds Try.pinned (OpenSpec.upto naturalDivideSpec)

/-- 'relucertlaw01.NaturalCompare', WHERE WHAT IT READS IS OF BULK AT MOST 1048576: true; the input reads as it did. -/
def naturalCompareUptoRow : OpenClaim := { program := "ytenncidmkcfebaa", sum := "7150be80b0a99c3fb721be8aeb272d72d3d2c093b8daa942e439e8dfb9adf05b", func := "relucert/relucertlaw01.NaturalCompare", spec := "naturalCompare", apart := false, narrowed := true }
def NaturalCompareUptoSaid : Prop := naturalCompareUptoRow.holds Try.pinned (OpenSpec.upto naturalCompareSpec)

/-- 'relucertlaw01.NaturalAdd', WHERE WHAT IT READS IS OF BULK AT MOST 1048576: true; the input reads as it did. -/
def naturalAddUptoRow : OpenClaim := { program := "ytenncidmkcfebaa", sum := "7150be80b0a99c3fb721be8aeb272d72d3d2c093b8daa942e439e8dfb9adf05b", func := "relucert/relucertlaw01.NaturalAdd", spec := "naturalAdd", apart := false, narrowed := true }
def NaturalAddUptoSaid : Prop := naturalAddUptoRow.holds Try.pinned (OpenSpec.upto naturalAddSpec)

/-- 'relucertlaw01.NaturalSub', WHERE WHAT IT READS IS OF BULK AT MOST 1048576: true; the input reads as it did. -/
def naturalSubUptoRow : OpenClaim := { program := "ytenncidmkcfebaa", sum := "7150be80b0a99c3fb721be8aeb272d72d3d2c093b8daa942e439e8dfb9adf05b", func := "relucert/relucertlaw01.NaturalSub", spec := "naturalSub", apart := false, narrowed := true }
def NaturalSubUptoSaid : Prop := naturalSubUptoRow.holds Try.pinned (OpenSpec.upto naturalSubSpec)

/-- 'relucertlaw01.NaturalShift', WHERE WHAT IT READS IS OF BULK AT MOST 1048576: true; the input reads as it did. -/
def naturalShiftUptoRow : OpenClaim := { program := "ytenncidmkcfebaa", sum := "7150be80b0a99c3fb721be8aeb272d72d3d2c093b8daa942e439e8dfb9adf05b", func := "relucert/relucertlaw01.NaturalShift", spec := "naturalShift", apart := false, narrowed := true }
def NaturalShiftUptoSaid : Prop := naturalShiftUptoRow.holds Try.pinned (OpenSpec.upto naturalShiftSpec)

/-- 'relucertlaw01.NaturalMul', WHERE WHAT IT READS IS OF BULK AT MOST 1048576: true; the input reads as it did. -/
def naturalMulUptoRow : OpenClaim := { program := "ytenncidmkcfebaa", sum := "7150be80b0a99c3fb721be8aeb272d72d3d2c093b8daa942e439e8dfb9adf05b", func := "relucert/relucertlaw01.NaturalMul", spec := "naturalMul", apart := false, narrowed := true }
def NaturalMulUptoSaid : Prop := naturalMulUptoRow.holds Try.pinned (OpenSpec.upto naturalMulSpec)

/-- 'relucertlaw01.NaturalDivides', WHERE WHAT IT READS IS OF BULK AT MOST 1048576: true; the input reads as it did. -/
def naturalDividesUptoRow : OpenClaim := { program := "ytenncidmkcfebaa", sum := "7150be80b0a99c3fb721be8aeb272d72d3d2c093b8daa942e439e8dfb9adf05b", func := "relucert/relucertlaw01.NaturalDivides", spec := "naturalDivides", apart := false, narrowed := true }
def NaturalDividesUptoSaid : Prop := naturalDividesUptoRow.holds Try.pinned (OpenSpec.upto naturalDividesSpec)

end Rows
end Go.Proofs.Ytenncidmkcfebaa
