/-
  No cell of these rows narrows 'for every input' (looked for: loops, veiled, ifaces, maps, wideKeys, modest, calm, conditions, laid).
  DERIVED. THE GIVEN ROWS OF THIS SEAT. 12 by the template 'for every input the law returns true; each argument reads behind the call as it read before'; 0 by the template 'total and deterministic' (their statements: YtadldlijmnohhaaTotals.lean).
  GIVEN WITH THE SEED: the statements are not yours to turn. If you find one false, say at which input.
  Laid BY PROGRAM, IN A SANDBOX (cutbox-rows.mjs): the forced cells as the released guide's own fill.sh prints them over the translation 80495f0cb9e1b65a… (all of the seat's roots in one cut). By AI agents, Wed Nov 11 2026. No macro, syntax, notation, axiom, sorry.
-/
import Derived.Test.YtadldlijmnohhaaChecked
import GoSem.Claim
import GoSem.ClaimJoined
import GoSem.ClaimMapViews
import Derived.JoinedTies
import Derived.KernelRfl
namespace Go.Proofs.Ytadldlijmnohhaa
/- THE CELL 'sum', in the pinned program and in every row, IS THE sha256 OF THE DUMP (.gsa) THAT YtadldlijmnohhaaProg.lean LOADS. Nothing in Lean hashes anything: it is a label: what it is worth is what the hold of that sum in a sandbox is worth. -/
noncomputable def Try.pinned : Pinned := { name := "ytadldlijmnohhaa", sum := "80495f0cb9e1b65a93207b4fdc91ca8d444e9bb68648a00af862ce2c011e676d", checked := Try.checked }
namespace Rows
def none {H : Type} : Left H := { results := [], args := [] }

/-- 'stockyardlaw22.FingerprintValid': WHATEVER THE INPUT: true; the input reads as it did. -/
def fingerprintValidSpec : ChangeSpec := { name := "fingerprintValid", fn := fun _ => fun
  | [d] => { results := [.lit (.bool true)], args := [d] }
  | _ => none }
def fingerprintValidRow : OpenClaim := { program := "ytadldlijmnohhaa", sum := "80495f0cb9e1b65a93207b4fdc91ca8d444e9bb68648a00af862ce2c011e676d", func := "stockyard/stockyardlaw22.FingerprintValid", spec := "fingerprintValid", apart := false }
def FingerprintValidSaid : Prop := fingerprintValidRow.holds Try.pinned (OpenSpec.ofChange fingerprintValidSpec)

/-- ITS FALSE NEIGHBOUR: 'it returns false'. Refute it at one input. -/
def fingerprintValidWrong : ChangeSpec := { name := "fingerprintValid", fn := fun _ => fun
  | [d] => { results := [.lit (.bool false)], args := [d] }
  | _ => none }
def FingerprintValidWrongFalsely : Prop := fingerprintValidRow.holds Try.pinned (OpenSpec.ofChange fingerprintValidWrong)

/-- 'stockyardlaw22.FingerprintByte': WHATEVER THE INPUT: true; the input reads as it did. -/
def fingerprintByteSpec : ChangeSpec := { name := "fingerprintByte", fn := fun _ => fun
  | [d1, d2, d3] => { results := [.lit (.bool true)], args := [d1, d2, d3] }
  | _ => none }
def fingerprintByteRow : OpenClaim := { program := "ytadldlijmnohhaa", sum := "80495f0cb9e1b65a93207b4fdc91ca8d444e9bb68648a00af862ce2c011e676d", func := "stockyard/stockyardlaw22.FingerprintByte", spec := "fingerprintByte", apart := false }
def FingerprintByteSaid : Prop := fingerprintByteRow.holds Try.pinned (OpenSpec.ofChange fingerprintByteSpec)

/-- ITS FALSE NEIGHBOUR: 'it returns false'. Refute it at one input. -/
def fingerprintByteWrong : ChangeSpec := { name := "fingerprintByte", fn := fun _ => fun
  | [d1, d2, d3] => { results := [.lit (.bool false)], args := [d1, d2, d3] }
  | _ => none }
def FingerprintByteWrongFalsely : Prop := fingerprintByteRow.holds Try.pinned (OpenSpec.ofChange fingerprintByteWrong)

/-- 'stockyardlaw22.FingerprintNeighbours': WHATEVER THE INPUT: true; the input reads as it did. -/
def fingerprintNeighboursSpec : ChangeSpec := { name := "fingerprintNeighbours", fn := fun _ => fun
  | [d1, d2] => { results := [.lit (.bool true)], args := [d1, d2] }
  | _ => none }
def fingerprintNeighboursRow : OpenClaim := { program := "ytadldlijmnohhaa", sum := "80495f0cb9e1b65a93207b4fdc91ca8d444e9bb68648a00af862ce2c011e676d", func := "stockyard/stockyardlaw22.FingerprintNeighbours", spec := "fingerprintNeighbours", apart := false }
def FingerprintNeighboursSaid : Prop := fingerprintNeighboursRow.holds Try.pinned (OpenSpec.ofChange fingerprintNeighboursSpec)

/-- ITS FALSE NEIGHBOUR: 'it returns false'. Refute it at one input. -/
def fingerprintNeighboursWrong : ChangeSpec := { name := "fingerprintNeighbours", fn := fun _ => fun
  | [d1, d2] => { results := [.lit (.bool false)], args := [d1, d2] }
  | _ => none }
def FingerprintNeighboursWrongFalsely : Prop := fingerprintNeighboursRow.holds Try.pinned (OpenSpec.ofChange fingerprintNeighboursWrong)

/-- 'stockyardlaw22.FingerprintSums': WHATEVER THE INPUT: true; the input reads as it did. -/
def fingerprintSumsSpec : ChangeSpec := { name := "fingerprintSums", fn := fun _ => fun
  | [d] => { results := [.lit (.bool true)], args := [d] }
  | _ => none }
def fingerprintSumsRow : OpenClaim := { program := "ytadldlijmnohhaa", sum := "80495f0cb9e1b65a93207b4fdc91ca8d444e9bb68648a00af862ce2c011e676d", func := "stockyard/stockyardlaw22.FingerprintSums", spec := "fingerprintSums", apart := false }
def FingerprintSumsSaid : Prop := fingerprintSumsRow.holds Try.pinned (OpenSpec.ofChange fingerprintSumsSpec)

/-- ITS FALSE NEIGHBOUR: 'it returns false'. Refute it at one input. -/
def fingerprintSumsWrong : ChangeSpec := { name := "fingerprintSums", fn := fun _ => fun
  | [d] => { results := [.lit (.bool false)], args := [d] }
  | _ => none }
def FingerprintSumsWrongFalsely : Prop := fingerprintSumsRow.holds Try.pinned (OpenSpec.ofChange fingerprintSumsWrong)

/-- 'stockyardlaw22.FingerprintPowers': WHATEVER THE INPUT: true; the input reads as it did. -/
def fingerprintPowersSpec : ChangeSpec := { name := "fingerprintPowers", fn := fun _ => fun
  | [d] => { results := [.lit (.bool true)], args := [d] }
  | _ => none }
def fingerprintPowersRow : OpenClaim := { program := "ytadldlijmnohhaa", sum := "80495f0cb9e1b65a93207b4fdc91ca8d444e9bb68648a00af862ce2c011e676d", func := "stockyard/stockyardlaw22.FingerprintPowers", spec := "fingerprintPowers", apart := false }
def FingerprintPowersSaid : Prop := fingerprintPowersRow.holds Try.pinned (OpenSpec.ofChange fingerprintPowersSpec)

/-- ITS FALSE NEIGHBOUR: 'it returns false'. Refute it at one input. -/
def fingerprintPowersWrong : ChangeSpec := { name := "fingerprintPowers", fn := fun _ => fun
  | [d] => { results := [.lit (.bool false)], args := [d] }
  | _ => none }
def FingerprintPowersWrongFalsely : Prop := fingerprintPowersRow.holds Try.pinned (OpenSpec.ofChange fingerprintPowersWrong)

/-- 'stockyardlaw22.FingerprintJoins': WHATEVER THE INPUT: true; the input reads as it did. -/
def fingerprintJoinsSpec : ChangeSpec := { name := "fingerprintJoins", fn := fun _ => fun
  | [d1, d2] => { results := [.lit (.bool true)], args := [d1, d2] }
  | _ => none }
def fingerprintJoinsRow : OpenClaim := { program := "ytadldlijmnohhaa", sum := "80495f0cb9e1b65a93207b4fdc91ca8d444e9bb68648a00af862ce2c011e676d", func := "stockyard/stockyardlaw22.FingerprintJoins", spec := "fingerprintJoins", apart := false }
def FingerprintJoinsSaid : Prop := fingerprintJoinsRow.holds Try.pinned (OpenSpec.ofChange fingerprintJoinsSpec)

/-- ITS FALSE NEIGHBOUR: 'it returns false'. Refute it at one input. -/
def fingerprintJoinsWrong : ChangeSpec := { name := "fingerprintJoins", fn := fun _ => fun
  | [d1, d2] => { results := [.lit (.bool false)], args := [d1, d2] }
  | _ => none }
def FingerprintJoinsWrongFalsely : Prop := fingerprintJoinsRow.holds Try.pinned (OpenSpec.ofChange fingerprintJoinsWrong)

/-- 'stockyardlaw22.FingerprintWindows': WHATEVER THE INPUT: true; the input reads as it did. -/
def fingerprintWindowsSpec : ChangeSpec := { name := "fingerprintWindows", fn := fun _ => fun
  | [d1, d2, d3, d4] => { results := [.lit (.bool true)], args := [d1, d2, d3, d4] }
  | _ => none }
def fingerprintWindowsRow : OpenClaim := { program := "ytadldlijmnohhaa", sum := "80495f0cb9e1b65a93207b4fdc91ca8d444e9bb68648a00af862ce2c011e676d", func := "stockyard/stockyardlaw22.FingerprintWindows", spec := "fingerprintWindows", apart := false }
def FingerprintWindowsSaid : Prop := fingerprintWindowsRow.holds Try.pinned (OpenSpec.ofChange fingerprintWindowsSpec)

/-- ITS FALSE NEIGHBOUR: 'it returns false'. Refute it at one input. -/
def fingerprintWindowsWrong : ChangeSpec := { name := "fingerprintWindows", fn := fun _ => fun
  | [d1, d2, d3, d4] => { results := [.lit (.bool false)], args := [d1, d2, d3, d4] }
  | _ => none }
def FingerprintWindowsWrongFalsely : Prop := fingerprintWindowsRow.holds Try.pinned (OpenSpec.ofChange fingerprintWindowsWrong)

/-- 'stockyardlaw22.FingerprintAssociates': WHATEVER THE INPUT: true; the input reads as it did. -/
def fingerprintAssociatesSpec : ChangeSpec := { name := "fingerprintAssociates", fn := fun _ => fun
  | [d1, d2, d3] => { results := [.lit (.bool true)], args := [d1, d2, d3] }
  | _ => none }
def fingerprintAssociatesRow : OpenClaim := { program := "ytadldlijmnohhaa", sum := "80495f0cb9e1b65a93207b4fdc91ca8d444e9bb68648a00af862ce2c011e676d", func := "stockyard/stockyardlaw22.FingerprintAssociates", spec := "fingerprintAssociates", apart := false }
def FingerprintAssociatesSaid : Prop := fingerprintAssociatesRow.holds Try.pinned (OpenSpec.ofChange fingerprintAssociatesSpec)

/-- ITS FALSE NEIGHBOUR: 'it returns false'. Refute it at one input. -/
def fingerprintAssociatesWrong : ChangeSpec := { name := "fingerprintAssociates", fn := fun _ => fun
  | [d1, d2, d3] => { results := [.lit (.bool false)], args := [d1, d2, d3] }
  | _ => none }
def FingerprintAssociatesWrongFalsely : Prop := fingerprintAssociatesRow.holds Try.pinned (OpenSpec.ofChange fingerprintAssociatesWrong)

/-- 'stockyardlaw22.FingerprintConcat': WHATEVER THE INPUT: true; the input reads as it did. -/
def fingerprintConcatSpec : ChangeSpec := { name := "fingerprintConcat", fn := fun _ => fun
  | [d1, d2] => { results := [.lit (.bool true)], args := [d1, d2] }
  | _ => none }
def fingerprintConcatRow : OpenClaim := { program := "ytadldlijmnohhaa", sum := "80495f0cb9e1b65a93207b4fdc91ca8d444e9bb68648a00af862ce2c011e676d", func := "stockyard/stockyardlaw22.FingerprintConcat", spec := "fingerprintConcat", apart := false }
def FingerprintConcatSaid : Prop := fingerprintConcatRow.holds Try.pinned (OpenSpec.ofChange fingerprintConcatSpec)

/-- ITS FALSE NEIGHBOUR: 'it returns false'. Refute it at one input. -/
def fingerprintConcatWrong : ChangeSpec := { name := "fingerprintConcat", fn := fun _ => fun
  | [d1, d2] => { results := [.lit (.bool false)], args := [d1, d2] }
  | _ => none }
def FingerprintConcatWrongFalsely : Prop := fingerprintConcatRow.holds Try.pinned (OpenSpec.ofChange fingerprintConcatWrong)

/-- 'stockyardlaw22.FingerprintParts': WHATEVER THE INPUT: true; the input reads as it did. -/
def fingerprintPartsSpec : ChangeSpec := { name := "fingerprintParts", fn := fun _ => fun
  | [d1, d2, d3] => { results := [.lit (.bool true)], args := [d1, d2, d3] }
  | _ => none }
def fingerprintPartsRow : OpenClaim := { program := "ytadldlijmnohhaa", sum := "80495f0cb9e1b65a93207b4fdc91ca8d444e9bb68648a00af862ce2c011e676d", func := "stockyard/stockyardlaw22.FingerprintParts", spec := "fingerprintParts", apart := false }
def FingerprintPartsSaid : Prop := fingerprintPartsRow.holds Try.pinned (OpenSpec.ofChange fingerprintPartsSpec)

/-- ITS FALSE NEIGHBOUR: 'it returns false'. Refute it at one input. -/
def fingerprintPartsWrong : ChangeSpec := { name := "fingerprintParts", fn := fun _ => fun
  | [d1, d2, d3] => { results := [.lit (.bool false)], args := [d1, d2, d3] }
  | _ => none }
def FingerprintPartsWrongFalsely : Prop := fingerprintPartsRow.holds Try.pinned (OpenSpec.ofChange fingerprintPartsWrong)

/-- 'stockyardlaw22.FingerprintRests': WHATEVER THE INPUT: true; the input reads as it did. -/
def fingerprintRestsSpec : ChangeSpec := { name := "fingerprintRests", fn := fun _ => fun
  | [d1, d2] => { results := [.lit (.bool true)], args := [d1, d2] }
  | _ => none }
def fingerprintRestsRow : OpenClaim := { program := "ytadldlijmnohhaa", sum := "80495f0cb9e1b65a93207b4fdc91ca8d444e9bb68648a00af862ce2c011e676d", func := "stockyard/stockyardlaw22.FingerprintRests", spec := "fingerprintRests", apart := false }
def FingerprintRestsSaid : Prop := fingerprintRestsRow.holds Try.pinned (OpenSpec.ofChange fingerprintRestsSpec)

/-- ITS FALSE NEIGHBOUR: 'it returns false'. Refute it at one input. -/
def fingerprintRestsWrong : ChangeSpec := { name := "fingerprintRests", fn := fun _ => fun
  | [d1, d2] => { results := [.lit (.bool false)], args := [d1, d2] }
  | _ => none }
def FingerprintRestsWrongFalsely : Prop := fingerprintRestsRow.holds Try.pinned (OpenSpec.ofChange fingerprintRestsWrong)

/-- 'stockyardlaw22.FingerprintInverse': WHATEVER THE INPUT: true; the input reads as it did. -/
def fingerprintInverseSpec : ChangeSpec := { name := "fingerprintInverse", fn := fun _ => fun
  | [d1, d2] => { results := [.lit (.bool true)], args := [d1, d2] }
  | _ => none }
def fingerprintInverseRow : OpenClaim := { program := "ytadldlijmnohhaa", sum := "80495f0cb9e1b65a93207b4fdc91ca8d444e9bb68648a00af862ce2c011e676d", func := "stockyard/stockyardlaw22.FingerprintInverse", spec := "fingerprintInverse", apart := false }
def FingerprintInverseSaid : Prop := fingerprintInverseRow.holds Try.pinned (OpenSpec.ofChange fingerprintInverseSpec)

/-- ITS FALSE NEIGHBOUR: 'it returns false'. Refute it at one input. -/
def fingerprintInverseWrong : ChangeSpec := { name := "fingerprintInverse", fn := fun _ => fun
  | [d1, d2] => { results := [.lit (.bool false)], args := [d1, d2] }
  | _ => none }
def FingerprintInverseWrongFalsely : Prop := fingerprintInverseRow.holds Try.pinned (OpenSpec.ofChange fingerprintInverseWrong)

/- THE SECOND FORM. 'bulk': how many values and letters a reading holds, each counted each time it is reached (what is shared counts as often as it is met; a slice's spare places count too). A statement '..UptoSaid' is the law's where the arguments, and the package variables that the reading takes, are together of bulk at most 1048576: NARROWER than '..Said'. Prove '..Said' where nothing that the law and all that it calls make is longer than what came in: it says more and counts as full. Else prove '..UptoSaid'. A law counts once. -/
mutual
def uptoBulk {H : Type} : DataW H → Nat
  | .lit (.string bytes) => bytes.length + 1
  | .lit _ => 1
  | .nil => 1
  | .ptr d => uptoBulk d + 1
  | .slice elems spare => uptoBulkAll elems + uptoBulkAll spare + 1
  | .agg parts => uptoBulkAll parts + 1
  | .iface _ d => uptoBulk d + 1
  | .map entries => uptoBulkEntries entries + 1
  | .held _ => 1
def uptoBulkAll {H : Type} : List (DataW H) → Nat
  | [] => 0
  | d :: r => uptoBulk d + uptoBulkAll r
def uptoBulkEntries {H : Type} : List (Lit × DataW H) → Nat
  | [] => 0
  | x :: r => uptoBulkEntry x + uptoBulkEntries r
def uptoBulkEntry {H : Type} : Lit × DataW H → Nat
  | (.string bytes, d) => bytes.length + uptoBulk d + 1
  | (_, d) => uptoBulk d + 1
 end
def uptoSmall : (H : Type) → List (DataW H) → Bool := fun _ ds => decide (uptoBulkAll ds ≤ 1048576)
def OpenSpec.upto (s : _root_.Go.ChangeSpec) : _root_.Go.OpenSpec := { _root_.Go.OpenSpec.ofChange s with cond := some uptoSmall }

/-- 'stockyardlaw22.FingerprintValid', WHERE WHAT IT READS IS OF BULK AT MOST 1048576: true; the input reads as it did. -/
def fingerprintValidUptoRow : OpenClaim := { program := "ytadldlijmnohhaa", sum := "80495f0cb9e1b65a93207b4fdc91ca8d444e9bb68648a00af862ce2c011e676d", func := "stockyard/stockyardlaw22.FingerprintValid", spec := "fingerprintValid", apart := false, narrowed := true }
def FingerprintValidUptoSaid : Prop := fingerprintValidUptoRow.holds Try.pinned (OpenSpec.upto fingerprintValidSpec)

/-- 'stockyardlaw22.FingerprintByte', WHERE WHAT IT READS IS OF BULK AT MOST 1048576: true; the input reads as it did. -/
def fingerprintByteUptoRow : OpenClaim := { program := "ytadldlijmnohhaa", sum := "80495f0cb9e1b65a93207b4fdc91ca8d444e9bb68648a00af862ce2c011e676d", func := "stockyard/stockyardlaw22.FingerprintByte", spec := "fingerprintByte", apart := false, narrowed := true }
def FingerprintByteUptoSaid : Prop := fingerprintByteUptoRow.holds Try.pinned (OpenSpec.upto fingerprintByteSpec)

/-- 'stockyardlaw22.FingerprintNeighbours', WHERE WHAT IT READS IS OF BULK AT MOST 1048576: true; the input reads as it did. -/
def fingerprintNeighboursUptoRow : OpenClaim := { program := "ytadldlijmnohhaa", sum := "80495f0cb9e1b65a93207b4fdc91ca8d444e9bb68648a00af862ce2c011e676d", func := "stockyard/stockyardlaw22.FingerprintNeighbours", spec := "fingerprintNeighbours", apart := false, narrowed := true }
def FingerprintNeighboursUptoSaid : Prop := fingerprintNeighboursUptoRow.holds Try.pinned (OpenSpec.upto fingerprintNeighboursSpec)

/-- 'stockyardlaw22.FingerprintSums', WHERE WHAT IT READS IS OF BULK AT MOST 1048576: true; the input reads as it did. -/
def fingerprintSumsUptoRow : OpenClaim := { program := "ytadldlijmnohhaa", sum := "80495f0cb9e1b65a93207b4fdc91ca8d444e9bb68648a00af862ce2c011e676d", func := "stockyard/stockyardlaw22.FingerprintSums", spec := "fingerprintSums", apart := false, narrowed := true }
def FingerprintSumsUptoSaid : Prop := fingerprintSumsUptoRow.holds Try.pinned (OpenSpec.upto fingerprintSumsSpec)

/-- 'stockyardlaw22.FingerprintPowers', WHERE WHAT IT READS IS OF BULK AT MOST 1048576: true; the input reads as it did. -/
def fingerprintPowersUptoRow : OpenClaim := { program := "ytadldlijmnohhaa", sum := "80495f0cb9e1b65a93207b4fdc91ca8d444e9bb68648a00af862ce2c011e676d", func := "stockyard/stockyardlaw22.FingerprintPowers", spec := "fingerprintPowers", apart := false, narrowed := true }
def FingerprintPowersUptoSaid : Prop := fingerprintPowersUptoRow.holds Try.pinned (OpenSpec.upto fingerprintPowersSpec)

/-- 'stockyardlaw22.FingerprintJoins', WHERE WHAT IT READS IS OF BULK AT MOST 1048576: true; the input reads as it did. -/
def fingerprintJoinsUptoRow : OpenClaim := { program := "ytadldlijmnohhaa", sum := "80495f0cb9e1b65a93207b4fdc91ca8d444e9bb68648a00af862ce2c011e676d", func := "stockyard/stockyardlaw22.FingerprintJoins", spec := "fingerprintJoins", apart := false, narrowed := true }
def FingerprintJoinsUptoSaid : Prop := fingerprintJoinsUptoRow.holds Try.pinned (OpenSpec.upto fingerprintJoinsSpec)

/-- 'stockyardlaw22.FingerprintWindows', WHERE WHAT IT READS IS OF BULK AT MOST 1048576: true; the input reads as it did. -/
def fingerprintWindowsUptoRow : OpenClaim := { program := "ytadldlijmnohhaa", sum := "80495f0cb9e1b65a93207b4fdc91ca8d444e9bb68648a00af862ce2c011e676d", func := "stockyard/stockyardlaw22.FingerprintWindows", spec := "fingerprintWindows", apart := false, narrowed := true }
def FingerprintWindowsUptoSaid : Prop := fingerprintWindowsUptoRow.holds Try.pinned (OpenSpec.upto fingerprintWindowsSpec)

/-- 'stockyardlaw22.FingerprintAssociates', WHERE WHAT IT READS IS OF BULK AT MOST 1048576: true; the input reads as it did. -/
def fingerprintAssociatesUptoRow : OpenClaim := { program := "ytadldlijmnohhaa", sum := "80495f0cb9e1b65a93207b4fdc91ca8d444e9bb68648a00af862ce2c011e676d", func := "stockyard/stockyardlaw22.FingerprintAssociates", spec := "fingerprintAssociates", apart := false, narrowed := true }
def FingerprintAssociatesUptoSaid : Prop := fingerprintAssociatesUptoRow.holds Try.pinned (OpenSpec.upto fingerprintAssociatesSpec)

/-- 'stockyardlaw22.FingerprintConcat', WHERE WHAT IT READS IS OF BULK AT MOST 1048576: true; the input reads as it did. -/
def fingerprintConcatUptoRow : OpenClaim := { program := "ytadldlijmnohhaa", sum := "80495f0cb9e1b65a93207b4fdc91ca8d444e9bb68648a00af862ce2c011e676d", func := "stockyard/stockyardlaw22.FingerprintConcat", spec := "fingerprintConcat", apart := false, narrowed := true }
def FingerprintConcatUptoSaid : Prop := fingerprintConcatUptoRow.holds Try.pinned (OpenSpec.upto fingerprintConcatSpec)

/-- 'stockyardlaw22.FingerprintParts', WHERE WHAT IT READS IS OF BULK AT MOST 1048576: true; the input reads as it did. -/
def fingerprintPartsUptoRow : OpenClaim := { program := "ytadldlijmnohhaa", sum := "80495f0cb9e1b65a93207b4fdc91ca8d444e9bb68648a00af862ce2c011e676d", func := "stockyard/stockyardlaw22.FingerprintParts", spec := "fingerprintParts", apart := false, narrowed := true }
def FingerprintPartsUptoSaid : Prop := fingerprintPartsUptoRow.holds Try.pinned (OpenSpec.upto fingerprintPartsSpec)

/-- 'stockyardlaw22.FingerprintRests', WHERE WHAT IT READS IS OF BULK AT MOST 1048576: true; the input reads as it did. -/
def fingerprintRestsUptoRow : OpenClaim := { program := "ytadldlijmnohhaa", sum := "80495f0cb9e1b65a93207b4fdc91ca8d444e9bb68648a00af862ce2c011e676d", func := "stockyard/stockyardlaw22.FingerprintRests", spec := "fingerprintRests", apart := false, narrowed := true }
def FingerprintRestsUptoSaid : Prop := fingerprintRestsUptoRow.holds Try.pinned (OpenSpec.upto fingerprintRestsSpec)

/-- 'stockyardlaw22.FingerprintInverse', WHERE WHAT IT READS IS OF BULK AT MOST 1048576: true; the input reads as it did. -/
def fingerprintInverseUptoRow : OpenClaim := { program := "ytadldlijmnohhaa", sum := "80495f0cb9e1b65a93207b4fdc91ca8d444e9bb68648a00af862ce2c011e676d", func := "stockyard/stockyardlaw22.FingerprintInverse", spec := "fingerprintInverse", apart := false, narrowed := true }
def FingerprintInverseUptoSaid : Prop := fingerprintInverseUptoRow.holds Try.pinned (OpenSpec.upto fingerprintInverseSpec)

end Rows
end Go.Proofs.Ytadldlijmnohhaa
