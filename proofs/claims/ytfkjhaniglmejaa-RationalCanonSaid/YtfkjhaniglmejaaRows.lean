/-
  No cell of these rows narrows 'for every input' (looked for: loops, veiled, ifaces, maps, wideKeys, modest, calm, conditions, laid).
  DERIVED. THE GIVEN ROWS OF THIS SEAT. 9 by the template 'for every input the law returns true; each argument reads behind the call as it read before'; 0 by the template 'total and deterministic' (their statements: YtfkjhaniglmejaaTotals.lean).
  GIVEN WITH THE SEED: the statements are not yours to turn. If you find one false, say at which input.
  Laid BY PROGRAM, IN A SANDBOX (cutbox-rows.mjs): the forced cells as the released guide's own fill.sh prints them over the translation 9b870a050a041269… (all of the seat's roots in one cut). By AI agents, Wed Nov 11 2026. No macro, syntax, notation, axiom, sorry.
-/
import Derived.Test.YtfkjhaniglmejaaChecked
import GoSem.Claim
import GoSem.ClaimJoined
import GoSem.ClaimMapViews
import Derived.JoinedTies
import Derived.KernelRfl
namespace Go.Proofs.Ytfkjhaniglmejaa
/- THE CELL 'sum', in the pinned program and in every row, IS THE sha256 OF THE DUMP (.gsa) THAT YtfkjhaniglmejaaProg.lean LOADS. Nothing in Lean hashes anything: it is a label: what it is worth is what the hold of that sum in a sandbox is worth. -/
noncomputable def Try.pinned : Pinned := { name := "ytfkjhaniglmejaa", sum := "9b870a050a041269105e7d6fdd36952857f8d9abba75a4bb2f6d0f78158a01b5", checked := Try.checked }
namespace Rows
def none {H : Type} : Left H := { results := [], args := [] }

/-- 'relucertlaw03.RationalAdd': WHATEVER THE INPUT: true; the input reads as it did. -/
def rationalAddSpec : ChangeSpec := { name := "rationalAdd", fn := fun _ => fun
  | [d1, d2, d3] => { results := [.lit (.bool true)], args := [d1, d2, d3] }
  | _ => none }
def rationalAddRow : OpenClaim := { program := "ytfkjhaniglmejaa", sum := "9b870a050a041269105e7d6fdd36952857f8d9abba75a4bb2f6d0f78158a01b5", func := "relucert/relucertlaw03.RationalAdd", spec := "rationalAdd", recurses := true, apart := false }
def RationalAddSaid : Prop := rationalAddRow.holds Try.pinned (OpenSpec.ofChange rationalAddSpec)

/-- ITS FALSE NEIGHBOUR: 'it returns false'. Refute it at one input. -/
def rationalAddWrong : ChangeSpec := { name := "rationalAdd", fn := fun _ => fun
  | [d1, d2, d3] => { results := [.lit (.bool false)], args := [d1, d2, d3] }
  | _ => none }
def RationalAddWrongFalsely : Prop := rationalAddRow.holds Try.pinned (OpenSpec.ofChange rationalAddWrong)

/-- 'relucertlaw03.RationalFloor': WHATEVER THE INPUT: true; the input reads as it did. -/
def rationalFloorSpec : ChangeSpec := { name := "rationalFloor", fn := fun _ => fun
  | [d] => { results := [.lit (.bool true)], args := [d] }
  | _ => none }
def rationalFloorRow : OpenClaim := { program := "ytfkjhaniglmejaa", sum := "9b870a050a041269105e7d6fdd36952857f8d9abba75a4bb2f6d0f78158a01b5", func := "relucert/relucertlaw03.RationalFloor", spec := "rationalFloor", recurses := true, apart := false }
def RationalFloorSaid : Prop := rationalFloorRow.holds Try.pinned (OpenSpec.ofChange rationalFloorSpec)

/-- ITS FALSE NEIGHBOUR: 'it returns false'. Refute it at one input. -/
def rationalFloorWrong : ChangeSpec := { name := "rationalFloor", fn := fun _ => fun
  | [d] => { results := [.lit (.bool false)], args := [d] }
  | _ => none }
def RationalFloorWrongFalsely : Prop := rationalFloorRow.holds Try.pinned (OpenSpec.ofChange rationalFloorWrong)

/-- 'relucertlaw03.RationalSimplest': WHATEVER THE INPUT: true; the input reads as it did. -/
def rationalSimplestSpec : ChangeSpec := { name := "rationalSimplest", fn := fun _ => fun
  | [d1, d2] => { results := [.lit (.bool true)], args := [d1, d2] }
  | _ => none }
def rationalSimplestRow : OpenClaim := { program := "ytfkjhaniglmejaa", sum := "9b870a050a041269105e7d6fdd36952857f8d9abba75a4bb2f6d0f78158a01b5", func := "relucert/relucertlaw03.RationalSimplest", spec := "rationalSimplest", recurses := true, apart := false }
def RationalSimplestSaid : Prop := rationalSimplestRow.holds Try.pinned (OpenSpec.ofChange rationalSimplestSpec)

/-- ITS FALSE NEIGHBOUR: 'it returns false'. Refute it at one input. -/
def rationalSimplestWrong : ChangeSpec := { name := "rationalSimplest", fn := fun _ => fun
  | [d1, d2] => { results := [.lit (.bool false)], args := [d1, d2] }
  | _ => none }
def RationalSimplestWrongFalsely : Prop := rationalSimplestRow.holds Try.pinned (OpenSpec.ofChange rationalSimplestWrong)

/-- 'relucertlaw03.RationalSimpler': WHATEVER THE INPUT: true; the input reads as it did. -/
def rationalSimplerSpec : ChangeSpec := { name := "rationalSimpler", fn := fun _ => fun
  | [d1, d2, d3] => { results := [.lit (.bool true)], args := [d1, d2, d3] }
  | _ => none }
def rationalSimplerRow : OpenClaim := { program := "ytfkjhaniglmejaa", sum := "9b870a050a041269105e7d6fdd36952857f8d9abba75a4bb2f6d0f78158a01b5", func := "relucert/relucertlaw03.RationalSimpler", spec := "rationalSimpler", recurses := true, apart := false }
def RationalSimplerSaid : Prop := rationalSimplerRow.holds Try.pinned (OpenSpec.ofChange rationalSimplerSpec)

/-- ITS FALSE NEIGHBOUR: 'it returns false'. Refute it at one input. -/
def rationalSimplerWrong : ChangeSpec := { name := "rationalSimpler", fn := fun _ => fun
  | [d1, d2, d3] => { results := [.lit (.bool false)], args := [d1, d2, d3] }
  | _ => none }
def RationalSimplerWrongFalsely : Prop := rationalSimplerRow.holds Try.pinned (OpenSpec.ofChange rationalSimplerWrong)

/-- 'relucertlaw03.RationalNeg': WHATEVER THE INPUT: true; the input reads as it did. -/
def rationalNegSpec : ChangeSpec := { name := "rationalNeg", fn := fun _ => fun
  | [d] => { results := [.lit (.bool true)], args := [d] }
  | _ => none }
def rationalNegRow : OpenClaim := { program := "ytfkjhaniglmejaa", sum := "9b870a050a041269105e7d6fdd36952857f8d9abba75a4bb2f6d0f78158a01b5", func := "relucert/relucertlaw03.RationalNeg", spec := "rationalNeg", recurses := true, apart := false }
def RationalNegSaid : Prop := rationalNegRow.holds Try.pinned (OpenSpec.ofChange rationalNegSpec)

/-- ITS FALSE NEIGHBOUR: 'it returns false'. Refute it at one input. -/
def rationalNegWrong : ChangeSpec := { name := "rationalNeg", fn := fun _ => fun
  | [d] => { results := [.lit (.bool false)], args := [d] }
  | _ => none }
def RationalNegWrongFalsely : Prop := rationalNegRow.holds Try.pinned (OpenSpec.ofChange rationalNegWrong)

/-- 'relucertlaw03.RationalMul': WHATEVER THE INPUT: true; the input reads as it did. -/
def rationalMulSpec : ChangeSpec := { name := "rationalMul", fn := fun _ => fun
  | [d1, d2, d3] => { results := [.lit (.bool true)], args := [d1, d2, d3] }
  | _ => none }
def rationalMulRow : OpenClaim := { program := "ytfkjhaniglmejaa", sum := "9b870a050a041269105e7d6fdd36952857f8d9abba75a4bb2f6d0f78158a01b5", func := "relucert/relucertlaw03.RationalMul", spec := "rationalMul", recurses := true, apart := false }
def RationalMulSaid : Prop := rationalMulRow.holds Try.pinned (OpenSpec.ofChange rationalMulSpec)

/-- ITS FALSE NEIGHBOUR: 'it returns false'. Refute it at one input. -/
def rationalMulWrong : ChangeSpec := { name := "rationalMul", fn := fun _ => fun
  | [d1, d2, d3] => { results := [.lit (.bool false)], args := [d1, d2, d3] }
  | _ => none }
def RationalMulWrongFalsely : Prop := rationalMulRow.holds Try.pinned (OpenSpec.ofChange rationalMulWrong)

/-- 'relucertlaw03.RationalMake': WHATEVER THE INPUT: true; the input reads as it did. -/
def rationalMakeSpec : ChangeSpec := { name := "rationalMake", fn := fun _ => fun
  | [d1, d2, d3] => { results := [.lit (.bool true)], args := [d1, d2, d3] }
  | _ => none }
def rationalMakeRow : OpenClaim := { program := "ytfkjhaniglmejaa", sum := "9b870a050a041269105e7d6fdd36952857f8d9abba75a4bb2f6d0f78158a01b5", func := "relucert/relucertlaw03.RationalMake", spec := "rationalMake", recurses := true, apart := false }
def RationalMakeSaid : Prop := rationalMakeRow.holds Try.pinned (OpenSpec.ofChange rationalMakeSpec)

/-- ITS FALSE NEIGHBOUR: 'it returns false'. Refute it at one input. -/
def rationalMakeWrong : ChangeSpec := { name := "rationalMake", fn := fun _ => fun
  | [d1, d2, d3] => { results := [.lit (.bool false)], args := [d1, d2, d3] }
  | _ => none }
def RationalMakeWrongFalsely : Prop := rationalMakeRow.holds Try.pinned (OpenSpec.ofChange rationalMakeWrong)

/-- 'relucertlaw03.RationalCanon': WHATEVER THE INPUT: true; the input reads as it did. -/
def rationalCanonSpec : ChangeSpec := { name := "rationalCanon", fn := fun _ => fun
  | [d] => { results := [.lit (.bool true)], args := [d] }
  | _ => none }
def rationalCanonRow : OpenClaim := { program := "ytfkjhaniglmejaa", sum := "9b870a050a041269105e7d6fdd36952857f8d9abba75a4bb2f6d0f78158a01b5", func := "relucert/relucertlaw03.RationalCanon", spec := "rationalCanon", recurses := true, apart := false }
def RationalCanonSaid : Prop := rationalCanonRow.holds Try.pinned (OpenSpec.ofChange rationalCanonSpec)

/-- ITS FALSE NEIGHBOUR: 'it returns false'. Refute it at one input. -/
def rationalCanonWrong : ChangeSpec := { name := "rationalCanon", fn := fun _ => fun
  | [d] => { results := [.lit (.bool false)], args := [d] }
  | _ => none }
def RationalCanonWrongFalsely : Prop := rationalCanonRow.holds Try.pinned (OpenSpec.ofChange rationalCanonWrong)

/-- 'relucertlaw03.RationalCompare': WHATEVER THE INPUT: true; the input reads as it did. -/
def rationalCompareSpec : ChangeSpec := { name := "rationalCompare", fn := fun _ => fun
  | [d1, d2, d3] => { results := [.lit (.bool true)], args := [d1, d2, d3] }
  | _ => none }
def rationalCompareRow : OpenClaim := { program := "ytfkjhaniglmejaa", sum := "9b870a050a041269105e7d6fdd36952857f8d9abba75a4bb2f6d0f78158a01b5", func := "relucert/relucertlaw03.RationalCompare", spec := "rationalCompare", recurses := true, apart := false }
def RationalCompareSaid : Prop := rationalCompareRow.holds Try.pinned (OpenSpec.ofChange rationalCompareSpec)

/-- ITS FALSE NEIGHBOUR: 'it returns false'. Refute it at one input. -/
def rationalCompareWrong : ChangeSpec := { name := "rationalCompare", fn := fun _ => fun
  | [d1, d2, d3] => { results := [.lit (.bool false)], args := [d1, d2, d3] }
  | _ => none }
def RationalCompareWrongFalsely : Prop := rationalCompareRow.holds Try.pinned (OpenSpec.ofChange rationalCompareWrong)

/- THE SECOND FORM. 'bulk': how many values and letters a reading holds, each counted each time it is reached (what is shared counts as often as it is met; a slice's spare places count too). A statement '..UptoSaid' is the law's where the arguments, and the package variables that the reading takes, are together of bulk at most 1048576: NARROWER than '..Said'. Prove '..Said' where nothing that the law and all that it calls make is longer than what came in: it says more and counts as full. Else prove '..UptoSaid'. A law counts once. -/
mutual
def uptoBulk {H : Type} : DataW H → Nat
  | .lit (.string bytes) => bytes.length + 1
  | .lit _ => 1
  | .nil => 1
  | .ptr d => uptoBulk d + 1
  | .slice elems spare => uptoBulkAll elems + uptoBulkAll spare + 1
  | .agg parts => uptoBulkAll parts + 1
  | .iface _ d => uptoBulk d + 1
  | .map entries => uptoBulkEntries entries + 1
  | .held _ => 1
def uptoBulkAll {H : Type} : List (DataW H) → Nat
  | [] => 0
  | d :: r => uptoBulk d + uptoBulkAll r
def uptoBulkEntries {H : Type} : List (Lit × DataW H) → Nat
  | [] => 0
  | x :: r => uptoBulkEntry x + uptoBulkEntries r
def uptoBulkEntry {H : Type} : Lit × DataW H → Nat
  | (.string bytes, d) => bytes.length + uptoBulk d + 1
  | (_, d) => uptoBulk d + 1
 end
def uptoSmall : (H : Type) → List (DataW H) → Bool := fun _ ds => decide (uptoBulkAll ds ≤ 1048576)
def OpenSpec.upto (s : _root_.Go.ChangeSpec) : _root_.Go.OpenSpec := { _root_.Go.OpenSpec.ofChange s with cond := some uptoSmall }

/-- 'relucertlaw03.RationalAdd', WHERE WHAT IT READS IS OF BULK AT MOST 1048576: true; the input reads as it did. -/
def rationalAddUptoRow : OpenClaim := { program := "ytfkjhaniglmejaa", sum := "9b870a050a041269105e7d6fdd36952857f8d9abba75a4bb2f6d0f78158a01b5", func := "relucert/relucertlaw03.RationalAdd", spec := "rationalAdd", recurses := true, apart := false, narrowed := true }
def RationalAddUptoSaid : Prop := rationalAddUptoRow.holds Try.pinned (OpenSpec.upto rationalAddSpec)

/-- 'relucertlaw03.RationalFloor', WHERE WHAT IT READS IS OF BULK AT MOST 1048576: true; the input reads as it did. -/
def rationalFloorUptoRow : OpenClaim := { program := "ytfkjhaniglmejaa", sum := "9b870a050a041269105e7d6fdd36952857f8d9abba75a4bb2f6d0f78158a01b5", func := "relucert/relucertlaw03.RationalFloor", spec := "rationalFloor", recurses := true, apart := false, narrowed := true }
def RationalFloorUptoSaid : Prop := rationalFloorUptoRow.holds Try.pinned (OpenSpec.upto rationalFloorSpec)

/-- 'relucertlaw03.RationalSimplest', WHERE WHAT IT READS IS OF BULK AT MOST 1048576: true; the input reads as it did. -/
def rationalSimplestUptoRow : OpenClaim := { program := "ytfkjhaniglmejaa", sum := "9b870a050a041269105e7d6fdd36952857f8d9abba75a4bb2f6d0f78158a01b5", func := "relucert/relucertlaw03.RationalSimplest", spec := "rationalSimplest", recurses := true, apart := false, narrowed := true }
def RationalSimplestUptoSaid : Prop := rationalSimplestUptoRow.holds Try.pinned (OpenSpec.upto rationalSimplestSpec)

/-- 'relucertlaw03.RationalSimpler', WHERE WHAT IT READS IS OF BULK AT MOST 1048576: true; the input reads as it did. -/
def rationalSimplerUptoRow : OpenClaim := { program := "ytfkjhaniglmejaa", sum := "9b870a050a041269105e7d6fdd36952857f8d9abba75a4bb2f6d0f78158a01b5", func := "relucert/relucertlaw03.RationalSimpler", spec := "rationalSimpler", recurses := true, apart := false, narrowed := true }
def RationalSimplerUptoSaid : Prop := rationalSimplerUptoRow.holds Try.pinned (OpenSpec.upto rationalSimplerSpec)

/-- 'relucertlaw03.RationalNeg', WHERE WHAT IT READS IS OF BULK AT MOST 1048576: true; the input reads as it did. -/
def rationalNegUptoRow : OpenClaim := { program := "ytfkjhaniglmejaa", sum := "9b870a050a041269105e7d6fdd36952857f8d9abba75a4bb2f6d0f78158a01b5", func := "relucert/relucertlaw03.RationalNeg", spec := "rationalNeg", recurses := true, apart := false, narrowed := true }
def RationalNegUptoSaid : Prop := rationalNegUptoRow.holds Try.pinned (OpenSpec.upto rationalNegSpec)

/-- 'relucertlaw03.RationalMul', WHERE WHAT IT READS IS OF BULK AT MOST 1048576: true; the input reads as it did. -/
def rationalMulUptoRow : OpenClaim := { program := "ytfkjhaniglmejaa", sum := "9b870a050a041269105e7d6fdd36952857f8d9abba75a4bb2f6d0f78158a01b5", func := "relucert/relucertlaw03.RationalMul", spec := "rationalMul", recurses := true, apart := false, narrowed := true }
def RationalMulUptoSaid : Prop := rationalMulUptoRow.holds Try.pinned (OpenSpec.upto rationalMulSpec)

/-- 'relucertlaw03.RationalMake', WHERE WHAT IT READS IS OF BULK AT MOST 1048576: true; the input reads as it did. -/
def rationalMakeUptoRow : OpenClaim := { program := "ytfkjhaniglmejaa", sum := "9b870a050a041269105e7d6fdd36952857f8d9abba75a4bb2f6d0f78158a01b5", func := "relucert/relucertlaw03.RationalMake", spec := "rationalMake", recurses := true, apart := false, narrowed := true }
def RationalMakeUptoSaid : Prop := rationalMakeUptoRow.holds Try.pinned (OpenSpec.upto rationalMakeSpec)

/-- 'relucertlaw03.RationalCanon', WHERE WHAT IT READS IS OF BULK AT MOST 1048576: true; the input reads as it did. -/
def rationalCanonUptoRow : OpenClaim := { program := "ytfkjhaniglmejaa", sum := "9b870a050a041269105e7d6fdd36952857f8d9abba75a4bb2f6d0f78158a01b5", func := "relucert/relucertlaw03.RationalCanon", spec := "rationalCanon", recurses := true, apart := false, narrowed := true }
def RationalCanonUptoSaid : Prop := rationalCanonUptoRow.holds Try.pinned (OpenSpec.upto rationalCanonSpec)

/-- 'relucertlaw03.RationalCompare', WHERE WHAT IT READS IS OF BULK AT MOST 1048576: true; the input reads as it did. -/
def rationalCompareUptoRow : OpenClaim := { program := "ytfkjhaniglmejaa", sum := "9b870a050a041269105e7d6fdd36952857f8d9abba75a4bb2f6d0f78158a01b5", func := "relucert/relucertlaw03.RationalCompare", spec := "rationalCompare", recurses := true, apart := false, narrowed := true }
def RationalCompareUptoSaid : Prop := rationalCompareUptoRow.holds Try.pinned (OpenSpec.upto rationalCompareSpec)

end Rows
end Go.Proofs.Ytfkjhaniglmejaa
