/-
  No cell of these rows narrows 'for every input' (looked for: loops, veiled, ifaces, maps, wideKeys, modest, calm, conditions, laid).
  DERIVED. THE GIVEN ROWS OF THIS SEAT. 11 by the template 'for every input the law returns true; each argument reads behind the call as it read before'; 0 by the template 'total and deterministic' (their statements: YtnbbbmmpkjiejaaTotals.lean).
  GIVEN WITH THE SEED: the statements are not yours to turn. If you find one false, say at which input.
  Laid BY PROGRAM, IN A SANDBOX (cutbox-rows.mjs): the forced cells as the released guide's own fill.sh prints them over the translation 0cc479aaeca8aa3a… (all of the seat's roots in one cut). By AI agents, Wed Nov 11 2026. No macro, syntax, notation, axiom, sorry.
-/
import Derived.Test.YtnbbbmmpkjiejaaChecked
import GoSem.Claim
import GoSem.ClaimJoined
import GoSem.ClaimMapViews
import Derived.JoinedTies
import Derived.KernelRfl
namespace Go.Proofs.Ytnbbbmmpkjiejaa
/- THE CELL 'sum', in the pinned program and in every row, IS THE sha256 OF THE DUMP (.gsa) THAT YtnbbbmmpkjiejaaProg.lean LOADS. Nothing in Lean hashes anything: it is a label: what it is worth is what the hold of that sum in a sandbox is worth. -/
noncomputable def Try.pinned : Pinned := { name := "ytnbbbmmpkjiejaa", sum := "0cc479aaeca8aa3a20565f48e92af9c22d9f27d52a48d28accfe67e47c9c5884", checked := Try.checked }
namespace Rows
def none {H : Type} : Left H := { results := [], args := [] }

/-- 'stockyardlaw24.ChunkerSuffix': WHATEVER THE INPUT: true; the input reads as it did. -/
def chunkerSuffixSpec : ChangeSpec := { name := "chunkerSuffix", fn := fun _ => fun
  | [d1, d2] => { results := [.lit (.bool true)], args := [d1, d2] }
  | _ => none }
def chunkerSuffixRow : OpenClaim := { program := "ytnbbbmmpkjiejaa", sum := "0cc479aaeca8aa3a20565f48e92af9c22d9f27d52a48d28accfe67e47c9c5884", func := "stockyard/stockyardlaw24.ChunkerSuffix", spec := "chunkerSuffix", apart := false }
def ChunkerSuffixSaid : Prop := chunkerSuffixRow.holds Try.pinned (OpenSpec.ofChange chunkerSuffixSpec)

/-- ITS FALSE NEIGHBOUR: 'it returns false'. Refute it at one input. -/
def chunkerSuffixWrong : ChangeSpec := { name := "chunkerSuffix", fn := fun _ => fun
  | [d1, d2] => { results := [.lit (.bool false)], args := [d1, d2] }
  | _ => none }
def ChunkerSuffixWrongFalsely : Prop := chunkerSuffixRow.holds Try.pinned (OpenSpec.ofChange chunkerSuffixWrong)

/-- 'stockyardlaw24.ChunkerPrefix': WHATEVER THE INPUT: true; the input reads as it did. -/
def chunkerPrefixSpec : ChangeSpec := { name := "chunkerPrefix", fn := fun _ => fun
  | [d] => { results := [.lit (.bool true)], args := [d] }
  | _ => none }
def chunkerPrefixRow : OpenClaim := { program := "ytnbbbmmpkjiejaa", sum := "0cc479aaeca8aa3a20565f48e92af9c22d9f27d52a48d28accfe67e47c9c5884", func := "stockyard/stockyardlaw24.ChunkerPrefix", spec := "chunkerPrefix", apart := false }
def ChunkerPrefixSaid : Prop := chunkerPrefixRow.holds Try.pinned (OpenSpec.ofChange chunkerPrefixSpec)

/-- ITS FALSE NEIGHBOUR: 'it returns false'. Refute it at one input. -/
def chunkerPrefixWrong : ChangeSpec := { name := "chunkerPrefix", fn := fun _ => fun
  | [d] => { results := [.lit (.bool false)], args := [d] }
  | _ => none }
def ChunkerPrefixWrongFalsely : Prop := chunkerPrefixRow.holds Try.pinned (OpenSpec.ofChange chunkerPrefixWrong)

/-- 'stockyardlaw24.ChunkerMeets': WHATEVER THE INPUT: true; the input reads as it did. -/
def chunkerMeetsSpec : ChangeSpec := { name := "chunkerMeets", fn := fun _ => fun
  | [d] => { results := [.lit (.bool true)], args := [d] }
  | _ => none }
def chunkerMeetsRow : OpenClaim := { program := "ytnbbbmmpkjiejaa", sum := "0cc479aaeca8aa3a20565f48e92af9c22d9f27d52a48d28accfe67e47c9c5884", func := "stockyard/stockyardlaw24.ChunkerMeets", spec := "chunkerMeets", apart := false }
def ChunkerMeetsSaid : Prop := chunkerMeetsRow.holds Try.pinned (OpenSpec.ofChange chunkerMeetsSpec)

/-- ITS FALSE NEIGHBOUR: 'it returns false'. Refute it at one input. -/
def chunkerMeetsWrong : ChangeSpec := { name := "chunkerMeets", fn := fun _ => fun
  | [d] => { results := [.lit (.bool false)], args := [d] }
  | _ => none }
def ChunkerMeetsWrongFalsely : Prop := chunkerMeetsRow.holds Try.pinned (OpenSpec.ofChange chunkerMeetsWrong)

/-- 'stockyardlaw24.ChunkerEdit': WHATEVER THE INPUT: true; the input reads as it did. -/
def chunkerEditSpec : ChangeSpec := { name := "chunkerEdit", fn := fun _ => fun
  | [d] => { results := [.lit (.bool true)], args := [d] }
  | _ => none }
def chunkerEditRow : OpenClaim := { program := "ytnbbbmmpkjiejaa", sum := "0cc479aaeca8aa3a20565f48e92af9c22d9f27d52a48d28accfe67e47c9c5884", func := "stockyard/stockyardlaw24.ChunkerEdit", spec := "chunkerEdit", apart := false }
def ChunkerEditSaid : Prop := chunkerEditRow.holds Try.pinned (OpenSpec.ofChange chunkerEditSpec)

/-- ITS FALSE NEIGHBOUR: 'it returns false'. Refute it at one input. -/
def chunkerEditWrong : ChangeSpec := { name := "chunkerEdit", fn := fun _ => fun
  | [d] => { results := [.lit (.bool false)], args := [d] }
  | _ => none }
def ChunkerEditWrongFalsely : Prop := chunkerEditRow.holds Try.pinned (OpenSpec.ofChange chunkerEditWrong)

/-- 'stockyardlaw24.ChunkerFew': WHATEVER THE INPUT: true; the input reads as it did. -/
def chunkerFewSpec : ChangeSpec := { name := "chunkerFew", fn := fun _ => fun
  | [d] => { results := [.lit (.bool true)], args := [d] }
  | _ => none }
def chunkerFewRow : OpenClaim := { program := "ytnbbbmmpkjiejaa", sum := "0cc479aaeca8aa3a20565f48e92af9c22d9f27d52a48d28accfe67e47c9c5884", func := "stockyard/stockyardlaw24.ChunkerFew", spec := "chunkerFew", apart := false }
def ChunkerFewSaid : Prop := chunkerFewRow.holds Try.pinned (OpenSpec.ofChange chunkerFewSpec)

/-- ITS FALSE NEIGHBOUR: 'it returns false'. Refute it at one input. -/
def chunkerFewWrong : ChangeSpec := { name := "chunkerFew", fn := fun _ => fun
  | [d] => { results := [.lit (.bool false)], args := [d] }
  | _ => none }
def ChunkerFewWrongFalsely : Prop := chunkerFewRow.holds Try.pinned (OpenSpec.ofChange chunkerFewWrong)

/-- 'stockyardlaw24.ChunkerEnds': WHATEVER THE INPUT: true; the input reads as it did. -/
def chunkerEndsSpec : ChangeSpec := { name := "chunkerEnds", fn := fun _ => fun
  | [d] => { results := [.lit (.bool true)], args := [d] }
  | _ => none }
def chunkerEndsRow : OpenClaim := { program := "ytnbbbmmpkjiejaa", sum := "0cc479aaeca8aa3a20565f48e92af9c22d9f27d52a48d28accfe67e47c9c5884", func := "stockyard/stockyardlaw24.ChunkerEnds", spec := "chunkerEnds", apart := false }
def ChunkerEndsSaid : Prop := chunkerEndsRow.holds Try.pinned (OpenSpec.ofChange chunkerEndsSpec)

/-- ITS FALSE NEIGHBOUR: 'it returns false'. Refute it at one input. -/
def chunkerEndsWrong : ChangeSpec := { name := "chunkerEnds", fn := fun _ => fun
  | [d] => { results := [.lit (.bool false)], args := [d] }
  | _ => none }
def ChunkerEndsWrongFalsely : Prop := chunkerEndsRow.holds Try.pinned (OpenSpec.ofChange chunkerEndsWrong)

/-- 'stockyardlaw24.ChunkerParts': WHATEVER THE INPUT: true; the input reads as it did. -/
def chunkerPartsSpec : ChangeSpec := { name := "chunkerParts", fn := fun _ => fun
  | [d] => { results := [.lit (.bool true)], args := [d] }
  | _ => none }
def chunkerPartsRow : OpenClaim := { program := "ytnbbbmmpkjiejaa", sum := "0cc479aaeca8aa3a20565f48e92af9c22d9f27d52a48d28accfe67e47c9c5884", func := "stockyard/stockyardlaw24.ChunkerParts", spec := "chunkerParts", apart := false }
def ChunkerPartsSaid : Prop := chunkerPartsRow.holds Try.pinned (OpenSpec.ofChange chunkerPartsSpec)

/-- ITS FALSE NEIGHBOUR: 'it returns false'. Refute it at one input. -/
def chunkerPartsWrong : ChangeSpec := { name := "chunkerParts", fn := fun _ => fun
  | [d] => { results := [.lit (.bool false)], args := [d] }
  | _ => none }
def ChunkerPartsWrongFalsely : Prop := chunkerPartsRow.holds Try.pinned (OpenSpec.ofChange chunkerPartsWrong)

/-- 'stockyardlaw24.ChunkerEven': WHATEVER THE INPUT: true; the input reads as it did. -/
def chunkerEvenSpec : ChangeSpec := { name := "chunkerEven", fn := fun _ => fun
  | [d1, d2] => { results := [.lit (.bool true)], args := [d1, d2] }
  | _ => none }
def chunkerEvenRow : OpenClaim := { program := "ytnbbbmmpkjiejaa", sum := "0cc479aaeca8aa3a20565f48e92af9c22d9f27d52a48d28accfe67e47c9c5884", func := "stockyard/stockyardlaw24.ChunkerEven", spec := "chunkerEven", apart := false }
def ChunkerEvenSaid : Prop := chunkerEvenRow.holds Try.pinned (OpenSpec.ofChange chunkerEvenSpec)

/-- ITS FALSE NEIGHBOUR: 'it returns false'. Refute it at one input. -/
def chunkerEvenWrong : ChangeSpec := { name := "chunkerEven", fn := fun _ => fun
  | [d1, d2] => { results := [.lit (.bool false)], args := [d1, d2] }
  | _ => none }
def ChunkerEvenWrongFalsely : Prop := chunkerEvenRow.holds Try.pinned (OpenSpec.ofChange chunkerEvenWrong)

/-- 'stockyardlaw24.ChunkerChecks': WHATEVER THE INPUT: true; the input reads as it did. -/
def chunkerChecksSpec : ChangeSpec := { name := "chunkerChecks", fn := fun _ => fun
  | [d1, d2] => { results := [.lit (.bool true)], args := [d1, d2] }
  | _ => none }
def chunkerChecksRow : OpenClaim := { program := "ytnbbbmmpkjiejaa", sum := "0cc479aaeca8aa3a20565f48e92af9c22d9f27d52a48d28accfe67e47c9c5884", func := "stockyard/stockyardlaw24.ChunkerChecks", spec := "chunkerChecks", apart := false }
def ChunkerChecksSaid : Prop := chunkerChecksRow.holds Try.pinned (OpenSpec.ofChange chunkerChecksSpec)

/-- ITS FALSE NEIGHBOUR: 'it returns false'. Refute it at one input. -/
def chunkerChecksWrong : ChangeSpec := { name := "chunkerChecks", fn := fun _ => fun
  | [d1, d2] => { results := [.lit (.bool false)], args := [d1, d2] }
  | _ => none }
def ChunkerChecksWrongFalsely : Prop := chunkerChecksRow.holds Try.pinned (OpenSpec.ofChange chunkerChecksWrong)

/-- 'stockyardlaw24.ChunkerStream': WHATEVER THE INPUT: true; the input reads as it did. -/
def chunkerStreamSpec : ChangeSpec := { name := "chunkerStream", fn := fun _ => fun
  | [d] => { results := [.lit (.bool true)], args := [d] }
  | _ => none }
def chunkerStreamRow : OpenClaim := { program := "ytnbbbmmpkjiejaa", sum := "0cc479aaeca8aa3a20565f48e92af9c22d9f27d52a48d28accfe67e47c9c5884", func := "stockyard/stockyardlaw24.ChunkerStream", spec := "chunkerStream", apart := false }
def ChunkerStreamSaid : Prop := chunkerStreamRow.holds Try.pinned (OpenSpec.ofChange chunkerStreamSpec)

/-- ITS FALSE NEIGHBOUR: 'it returns false'. Refute it at one input. -/
def chunkerStreamWrong : ChangeSpec := { name := "chunkerStream", fn := fun _ => fun
  | [d] => { results := [.lit (.bool false)], args := [d] }
  | _ => none }
def ChunkerStreamWrongFalsely : Prop := chunkerStreamRow.holds Try.pinned (OpenSpec.ofChange chunkerStreamWrong)

/-- 'stockyardlaw24.ChunkerPieces': WHATEVER THE INPUT: true; the input reads as it did. -/
def chunkerPiecesSpec : ChangeSpec := { name := "chunkerPieces", fn := fun _ => fun
  | [d] => { results := [.lit (.bool true)], args := [d] }
  | _ => none }
def chunkerPiecesRow : OpenClaim := { program := "ytnbbbmmpkjiejaa", sum := "0cc479aaeca8aa3a20565f48e92af9c22d9f27d52a48d28accfe67e47c9c5884", func := "stockyard/stockyardlaw24.ChunkerPieces", spec := "chunkerPieces", apart := false }
def ChunkerPiecesSaid : Prop := chunkerPiecesRow.holds Try.pinned (OpenSpec.ofChange chunkerPiecesSpec)

/-- ITS FALSE NEIGHBOUR: 'it returns false'. Refute it at one input. -/
def chunkerPiecesWrong : ChangeSpec := { name := "chunkerPieces", fn := fun _ => fun
  | [d] => { results := [.lit (.bool false)], args := [d] }
  | _ => none }
def ChunkerPiecesWrongFalsely : Prop := chunkerPiecesRow.holds Try.pinned (OpenSpec.ofChange chunkerPiecesWrong)

/- THE SECOND FORM. 'bulk': how many values and letters a reading holds, each counted each time it is reached (what is shared counts as often as it is met; a slice's spare places count too). A statement '..UptoSaid' is the law's where the arguments, and the package variables that the reading takes, are together of bulk at most 1048576: NARROWER than '..Said'. Prove '..Said' where nothing that the law and all that it calls make is longer than what came in: it says more and counts as full. Else prove '..UptoSaid'. A law counts once. -/
mutual
def uptoBulk {H : Type} : DataW H → Nat
  | .lit (.string bytes) => bytes.length + 1
  | .lit _ => 1
  | .nil => 1
  | .ptr d => uptoBulk d + 1
  | .slice elems spare => uptoBulkAll elems + uptoBulkAll spare + 1
  | .agg parts => uptoBulkAll parts + 1
  | .iface _ d => uptoBulk d + 1
  | .map entries => uptoBulkEntries entries + 1
  | .held _ => 1
def uptoBulkAll {H : Type} : List (DataW H) → Nat
  | [] => 0
  | d :: r => uptoBulk d + uptoBulkAll r
def uptoBulkEntries {H : Type} : List (Lit × DataW H) → Nat
  | [] => 0
  | x :: r => uptoBulkEntry x + uptoBulkEntries r
def uptoBulkEntry {H : Type} : Lit × DataW H → Nat
  | (.string bytes, d) => bytes.length + uptoBulk d + 1
  | (_, d) => uptoBulk d + 1
 end
def uptoSmall : (H : Type) → List (DataW H) → Bool := fun _ ds => decide (uptoBulkAll ds ≤ 1048576)
def OpenSpec.upto (s : _root_.Go.ChangeSpec) : _root_.Go.OpenSpec := { _root_.Go.OpenSpec.ofChange s with cond := some uptoSmall }

/-- 'stockyardlaw24.ChunkerSuffix', WHERE WHAT IT READS IS OF BULK AT MOST 1048576: true; the input reads as it did. -/
def chunkerSuffixUptoRow : OpenClaim := { program := "ytnbbbmmpkjiejaa", sum := "0cc479aaeca8aa3a20565f48e92af9c22d9f27d52a48d28accfe67e47c9c5884", func := "stockyard/stockyardlaw24.ChunkerSuffix", spec := "chunkerSuffix", apart := false, narrowed := true }
def ChunkerSuffixUptoSaid : Prop := chunkerSuffixUptoRow.holds Try.pinned (OpenSpec.upto chunkerSuffixSpec)

/-- 'stockyardlaw24.ChunkerPrefix', WHERE WHAT IT READS IS OF BULK AT MOST 1048576: true; the input reads as it did. -/
def chunkerPrefixUptoRow : OpenClaim := { program := "ytnbbbmmpkjiejaa", sum := "0cc479aaeca8aa3a20565f48e92af9c22d9f27d52a48d28accfe67e47c9c5884", func := "stockyard/stockyardlaw24.ChunkerPrefix", spec := "chunkerPrefix", apart := false, narrowed := true }
def ChunkerPrefixUptoSaid : Prop := chunkerPrefixUptoRow.holds Try.pinned (OpenSpec.upto chunkerPrefixSpec)

/-- 'stockyardlaw24.ChunkerMeets', WHERE WHAT IT READS IS OF BULK AT MOST 1048576: true; the input reads as it did. -/
def chunkerMeetsUptoRow : OpenClaim := { program := "ytnbbbmmpkjiejaa", sum := "0cc479aaeca8aa3a20565f48e92af9c22d9f27d52a48d28accfe67e47c9c5884", func := "stockyard/stockyardlaw24.ChunkerMeets", spec := "chunkerMeets", apart := false, narrowed := true }
def ChunkerMeetsUptoSaid : Prop := chunkerMeetsUptoRow.holds Try.pinned (OpenSpec.upto chunkerMeetsSpec)

/-- 'stockyardlaw24.ChunkerEdit', WHERE WHAT IT READS IS OF BULK AT MOST 1048576: true; the input reads as it did. -/
def chunkerEditUptoRow : OpenClaim := { program := "ytnbbbmmpkjiejaa", sum := "0cc479aaeca8aa3a20565f48e92af9c22d9f27d52a48d28accfe67e47c9c5884", func := "stockyard/stockyardlaw24.ChunkerEdit", spec := "chunkerEdit", apart := false, narrowed := true }
def ChunkerEditUptoSaid : Prop := chunkerEditUptoRow.holds Try.pinned (OpenSpec.upto chunkerEditSpec)

/-- 'stockyardlaw24.ChunkerFew', WHERE WHAT IT READS IS OF BULK AT MOST 1048576: true; the input reads as it did. -/
def chunkerFewUptoRow : OpenClaim := { program := "ytnbbbmmpkjiejaa", sum := "0cc479aaeca8aa3a20565f48e92af9c22d9f27d52a48d28accfe67e47c9c5884", func := "stockyard/stockyardlaw24.ChunkerFew", spec := "chunkerFew", apart := false, narrowed := true }
def ChunkerFewUptoSaid : Prop := chunkerFewUptoRow.holds Try.pinned (OpenSpec.upto chunkerFewSpec)

/-- 'stockyardlaw24.ChunkerEnds', WHERE WHAT IT READS IS OF BULK AT MOST 1048576: true; the input reads as it did. -/
def chunkerEndsUptoRow : OpenClaim := { program := "ytnbbbmmpkjiejaa", sum := "0cc479aaeca8aa3a20565f48e92af9c22d9f27d52a48d28accfe67e47c9c5884", func := "stockyard/stockyardlaw24.ChunkerEnds", spec := "chunkerEnds", apart := false, narrowed := true }
def ChunkerEndsUptoSaid : Prop := chunkerEndsUptoRow.holds Try.pinned (OpenSpec.upto chunkerEndsSpec)

/-- 'stockyardlaw24.ChunkerParts', WHERE WHAT IT READS IS OF BULK AT MOST 1048576: true; the input reads as it did. -/
def chunkerPartsUptoRow : OpenClaim := { program := "ytnbbbmmpkjiejaa", sum := "0cc479aaeca8aa3a20565f48e92af9c22d9f27d52a48d28accfe67e47c9c5884", func := "stockyard/stockyardlaw24.ChunkerParts", spec := "chunkerParts", apart := false, narrowed := true }
def ChunkerPartsUptoSaid : Prop := chunkerPartsUptoRow.holds Try.pinned (OpenSpec.upto chunkerPartsSpec)

/-- 'stockyardlaw24.ChunkerEven', WHERE WHAT IT READS IS OF BULK AT MOST 1048576: true; the input reads as it did. -/
def chunkerEvenUptoRow : OpenClaim := { program := "ytnbbbmmpkjiejaa", sum := "0cc479aaeca8aa3a20565f48e92af9c22d9f27d52a48d28accfe67e47c9c5884", func := "stockyard/stockyardlaw24.ChunkerEven", spec := "chunkerEven", apart := false, narrowed := true }
def ChunkerEvenUptoSaid : Prop := chunkerEvenUptoRow.holds Try.pinned (OpenSpec.upto chunkerEvenSpec)

/-- 'stockyardlaw24.ChunkerChecks', WHERE WHAT IT READS IS OF BULK AT MOST 1048576: true; the input reads as it did. -/
def chunkerChecksUptoRow : OpenClaim := { program := "ytnbbbmmpkjiejaa", sum := "0cc479aaeca8aa3a20565f48e92af9c22d9f27d52a48d28accfe67e47c9c5884", func := "stockyard/stockyardlaw24.ChunkerChecks", spec := "chunkerChecks", apart := false, narrowed := true }
def ChunkerChecksUptoSaid : Prop := chunkerChecksUptoRow.holds Try.pinned (OpenSpec.upto chunkerChecksSpec)

/-- 'stockyardlaw24.ChunkerStream', WHERE WHAT IT READS IS OF BULK AT MOST 1048576: true; the input reads as it did. -/
def chunkerStreamUptoRow : OpenClaim := { program := "ytnbbbmmpkjiejaa", sum := "0cc479aaeca8aa3a20565f48e92af9c22d9f27d52a48d28accfe67e47c9c5884", func := "stockyard/stockyardlaw24.ChunkerStream", spec := "chunkerStream", apart := false, narrowed := true }
def ChunkerStreamUptoSaid : Prop := chunkerStreamUptoRow.holds Try.pinned (OpenSpec.upto chunkerStreamSpec)

/-- 'stockyardlaw24.ChunkerPieces', WHERE WHAT IT READS IS OF BULK AT MOST 1048576: true; the input reads as it did. -/
def chunkerPiecesUptoRow : OpenClaim := { program := "ytnbbbmmpkjiejaa", sum := "0cc479aaeca8aa3a20565f48e92af9c22d9f27d52a48d28accfe67e47c9c5884", func := "stockyard/stockyardlaw24.ChunkerPieces", spec := "chunkerPieces", apart := false, narrowed := true }
def ChunkerPiecesUptoSaid : Prop := chunkerPiecesUptoRow.holds Try.pinned (OpenSpec.upto chunkerPiecesSpec)

end Rows
end Go.Proofs.Ytnbbbmmpkjiejaa
