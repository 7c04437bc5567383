/-
  No cell of these rows narrows 'for every input' (looked for: loops, veiled, ifaces, maps, wideKeys, modest, calm, conditions, laid).
  DERIVED. THE GIVEN ROWS OF THIS SEAT. 8 by the template 'for every input the law returns true; each argument reads behind the call as it read before'; 0 by the template 'total and deterministic' (their statements: YtkcbdgdhcafcpaaTotals.lean).
  GIVEN WITH THE SEED: the statements are not yours to turn. If you find one false, say at which input.
  Laid BY PROGRAM, IN A SANDBOX (cutbox-rows.mjs): the forced cells as the released guide's own fill.sh prints them over the translation 8c74f675a34c7229… (all of the seat's roots in one cut). By AI agents, Wed Nov 11 2026. No macro, syntax, notation, axiom, sorry.
-/
import Derived.Test.YtkcbdgdhcafcpaaChecked
import GoSem.Claim
import GoSem.ClaimJoined
import GoSem.ClaimMapViews
import Derived.JoinedTies
import Derived.KernelRfl
namespace Go.Proofs.Ytkcbdgdhcafcpaa
/- THE CELL 'sum', in the pinned program and in every row, IS THE sha256 OF THE DUMP (.gsa) THAT YtkcbdgdhcafcpaaProg.lean LOADS. Nothing in Lean hashes anything: it is a label: what it is worth is what the hold of that sum in a sandbox is worth. -/
noncomputable def Try.pinned : Pinned := { name := "ytkcbdgdhcafcpaa", sum := "8c74f675a34c7229b7d3f4d4440f45d9211bc5af7ce79f1d88d98008e994d78f", checked := Try.checked }
namespace Rows
def none {H : Type} : Left H := { results := [], args := [] }

/-- 'stockyardlaw23.RollingSums': WHATEVER THE INPUT: true; the input reads as it did. -/
def rollingSumsSpec : ChangeSpec := { name := "rollingSums", fn := fun _ => fun
  | [d1, d2] => { results := [.lit (.bool true)], args := [d1, d2] }
  | _ => none }
def rollingSumsRow : OpenClaim := { program := "ytkcbdgdhcafcpaa", sum := "8c74f675a34c7229b7d3f4d4440f45d9211bc5af7ce79f1d88d98008e994d78f", func := "stockyard/stockyardlaw23.RollingSums", spec := "rollingSums", unfollowed := true, recurses := true, apart := false }
def RollingSumsSaid : Prop := rollingSumsRow.holds Try.pinned (OpenSpec.ofChange rollingSumsSpec)

/-- ITS FALSE NEIGHBOUR: 'it returns false'. Refute it at one input. -/
def rollingSumsWrong : ChangeSpec := { name := "rollingSums", fn := fun _ => fun
  | [d1, d2] => { results := [.lit (.bool false)], args := [d1, d2] }
  | _ => none }
def RollingSumsWrongFalsely : Prop := rollingSumsRow.holds Try.pinned (OpenSpec.ofChange rollingSumsWrong)

/-- 'stockyardlaw23.RollingAnew': WHATEVER THE INPUT: true; the input reads as it did. -/
def rollingAnewSpec : ChangeSpec := { name := "rollingAnew", fn := fun _ => fun
  | [d1, d2, d3] => { results := [.lit (.bool true)], args := [d1, d2, d3] }
  | _ => none }
def rollingAnewRow : OpenClaim := { program := "ytkcbdgdhcafcpaa", sum := "8c74f675a34c7229b7d3f4d4440f45d9211bc5af7ce79f1d88d98008e994d78f", func := "stockyard/stockyardlaw23.RollingAnew", spec := "rollingAnew", unfollowed := true, recurses := true, apart := false }
def RollingAnewSaid : Prop := rollingAnewRow.holds Try.pinned (OpenSpec.ofChange rollingAnewSpec)

/-- ITS FALSE NEIGHBOUR: 'it returns false'. Refute it at one input. -/
def rollingAnewWrong : ChangeSpec := { name := "rollingAnew", fn := fun _ => fun
  | [d1, d2, d3] => { results := [.lit (.bool false)], args := [d1, d2, d3] }
  | _ => none }
def RollingAnewWrongFalsely : Prop := rollingAnewRow.holds Try.pinned (OpenSpec.ofChange rollingAnewWrong)

/-- 'stockyardlaw23.RollingSizes': WHATEVER THE INPUT: true; the input reads as it did. -/
def rollingSizesSpec : ChangeSpec := { name := "rollingSizes", fn := fun _ => fun
  | [d1, d2] => { results := [.lit (.bool true)], args := [d1, d2] }
  | _ => none }
def rollingSizesRow : OpenClaim := { program := "ytkcbdgdhcafcpaa", sum := "8c74f675a34c7229b7d3f4d4440f45d9211bc5af7ce79f1d88d98008e994d78f", func := "stockyard/stockyardlaw23.RollingSizes", spec := "rollingSizes", unfollowed := true, recurses := true, apart := false }
def RollingSizesSaid : Prop := rollingSizesRow.holds Try.pinned (OpenSpec.ofChange rollingSizesSpec)

/-- ITS FALSE NEIGHBOUR: 'it returns false'. Refute it at one input. -/
def rollingSizesWrong : ChangeSpec := { name := "rollingSizes", fn := fun _ => fun
  | [d1, d2] => { results := [.lit (.bool false)], args := [d1, d2] }
  | _ => none }
def RollingSizesWrongFalsely : Prop := rollingSizesRow.holds Try.pinned (OpenSpec.ofChange rollingSizesWrong)

/-- 'stockyardlaw23.RollingForgets': WHATEVER THE INPUT: true; the input reads as it did. -/
def rollingForgetsSpec : ChangeSpec := { name := "rollingForgets", fn := fun _ => fun
  | [d1, d2, d3, d4] => { results := [.lit (.bool true)], args := [d1, d2, d3, d4] }
  | _ => none }
def rollingForgetsRow : OpenClaim := { program := "ytkcbdgdhcafcpaa", sum := "8c74f675a34c7229b7d3f4d4440f45d9211bc5af7ce79f1d88d98008e994d78f", func := "stockyard/stockyardlaw23.RollingForgets", spec := "rollingForgets", unfollowed := true, recurses := true, apart := false }
def RollingForgetsSaid : Prop := rollingForgetsRow.holds Try.pinned (OpenSpec.ofChange rollingForgetsSpec)

/-- ITS FALSE NEIGHBOUR: 'it returns false'. Refute it at one input. -/
def rollingForgetsWrong : ChangeSpec := { name := "rollingForgets", fn := fun _ => fun
  | [d1, d2, d3, d4] => { results := [.lit (.bool false)], args := [d1, d2, d3, d4] }
  | _ => none }
def RollingForgetsWrongFalsely : Prop := rollingForgetsRow.holds Try.pinned (OpenSpec.ofChange rollingForgetsWrong)

/-- 'stockyardlaw23.RollingPlays': WHATEVER THE INPUT: true; the input reads as it did. -/
def rollingPlaysSpec : ChangeSpec := { name := "rollingPlays", fn := fun _ => fun
  | [d1, d2] => { results := [.lit (.bool true)], args := [d1, d2] }
  | _ => none }
def rollingPlaysRow : OpenClaim := { program := "ytkcbdgdhcafcpaa", sum := "8c74f675a34c7229b7d3f4d4440f45d9211bc5af7ce79f1d88d98008e994d78f", func := "stockyard/stockyardlaw23.RollingPlays", spec := "rollingPlays", unfollowed := true, recurses := true, apart := false }
def RollingPlaysSaid : Prop := rollingPlaysRow.holds Try.pinned (OpenSpec.ofChange rollingPlaysSpec)

/-- ITS FALSE NEIGHBOUR: 'it returns false'. Refute it at one input. -/
def rollingPlaysWrong : ChangeSpec := { name := "rollingPlays", fn := fun _ => fun
  | [d1, d2] => { results := [.lit (.bool false)], args := [d1, d2] }
  | _ => none }
def RollingPlaysWrongFalsely : Prop := rollingPlaysRow.holds Try.pinned (OpenSpec.ofChange rollingPlaysWrong)

/-- 'stockyardlaw23.RollingWide': WHATEVER THE INPUT: true; the input reads as it did. -/
def rollingWideSpec : ChangeSpec := { name := "rollingWide", fn := fun _ => fun
  | [d] => { results := [.lit (.bool true)], args := [d] }
  | _ => none }
def rollingWideRow : OpenClaim := { program := "ytkcbdgdhcafcpaa", sum := "8c74f675a34c7229b7d3f4d4440f45d9211bc5af7ce79f1d88d98008e994d78f", func := "stockyard/stockyardlaw23.RollingWide", spec := "rollingWide", unfollowed := true, recurses := true, apart := false }
def RollingWideSaid : Prop := rollingWideRow.holds Try.pinned (OpenSpec.ofChange rollingWideSpec)

/-- ITS FALSE NEIGHBOUR: 'it returns false'. Refute it at one input. -/
def rollingWideWrong : ChangeSpec := { name := "rollingWide", fn := fun _ => fun
  | [d] => { results := [.lit (.bool false)], args := [d] }
  | _ => none }
def RollingWideWrongFalsely : Prop := rollingWideRow.holds Try.pinned (OpenSpec.ofChange rollingWideWrong)

/-- 'stockyardlaw23.RollingWindow': WHATEVER THE INPUT: true; the input reads as it did. -/
def rollingWindowSpec : ChangeSpec := { name := "rollingWindow", fn := fun _ => fun
  | [d1, d2] => { results := [.lit (.bool true)], args := [d1, d2] }
  | _ => none }
def rollingWindowRow : OpenClaim := { program := "ytkcbdgdhcafcpaa", sum := "8c74f675a34c7229b7d3f4d4440f45d9211bc5af7ce79f1d88d98008e994d78f", func := "stockyard/stockyardlaw23.RollingWindow", spec := "rollingWindow", unfollowed := true, recurses := true, apart := false }
def RollingWindowSaid : Prop := rollingWindowRow.holds Try.pinned (OpenSpec.ofChange rollingWindowSpec)

/-- ITS FALSE NEIGHBOUR: 'it returns false'. Refute it at one input. -/
def rollingWindowWrong : ChangeSpec := { name := "rollingWindow", fn := fun _ => fun
  | [d1, d2] => { results := [.lit (.bool false)], args := [d1, d2] }
  | _ => none }
def RollingWindowWrongFalsely : Prop := rollingWindowRow.holds Try.pinned (OpenSpec.ofChange rollingWindowWrong)

/-- 'stockyardlaw23.RollingPrefixes': WHATEVER THE INPUT: true; the input reads as it did. -/
def rollingPrefixesSpec : ChangeSpec := { name := "rollingPrefixes", fn := fun _ => fun
  | [d1, d2] => { results := [.lit (.bool true)], args := [d1, d2] }
  | _ => none }
def rollingPrefixesRow : OpenClaim := { program := "ytkcbdgdhcafcpaa", sum := "8c74f675a34c7229b7d3f4d4440f45d9211bc5af7ce79f1d88d98008e994d78f", func := "stockyard/stockyardlaw23.RollingPrefixes", spec := "rollingPrefixes", unfollowed := true, recurses := true, apart := false }
def RollingPrefixesSaid : Prop := rollingPrefixesRow.holds Try.pinned (OpenSpec.ofChange rollingPrefixesSpec)

/-- ITS FALSE NEIGHBOUR: 'it returns false'. Refute it at one input. -/
def rollingPrefixesWrong : ChangeSpec := { name := "rollingPrefixes", fn := fun _ => fun
  | [d1, d2] => { results := [.lit (.bool false)], args := [d1, d2] }
  | _ => none }
def RollingPrefixesWrongFalsely : Prop := rollingPrefixesRow.holds Try.pinned (OpenSpec.ofChange rollingPrefixesWrong)

/- THE SECOND FORM. 'bulk': how many values and letters a reading holds, each counted each time it is reached (what is shared counts as often as it is met; a slice's spare places count too). A statement '..UptoSaid' is the law's where the arguments, and the package variables that the reading takes, are together of bulk at most 1048576: NARROWER than '..Said'. Prove '..Said' where nothing that the law and all that it calls make is longer than what came in: it says more and counts as full. Else prove '..UptoSaid'. A law counts once. -/
mutual
def uptoBulk {H : Type} : DataW H → Nat
  | .lit (.string bytes) => bytes.length + 1
  | .lit _ => 1
  | .nil => 1
  | .ptr d => uptoBulk d + 1
  | .slice elems spare => uptoBulkAll elems + uptoBulkAll spare + 1
  | .agg parts => uptoBulkAll parts + 1
  | .iface _ d => uptoBulk d + 1
  | .map entries => uptoBulkEntries entries + 1
  | .held _ => 1
def uptoBulkAll {H : Type} : List (DataW H) → Nat
  | [] => 0
  | d :: r => uptoBulk d + uptoBulkAll r
def uptoBulkEntries {H : Type} : List (Lit × DataW H) → Nat
  | [] => 0
  | x :: r => uptoBulkEntry x + uptoBulkEntries r
def uptoBulkEntry {H : Type} : Lit × DataW H → Nat
  | (.string bytes, d) => bytes.length + uptoBulk d + 1
  | (_, d) => uptoBulk d + 1
 end
def uptoSmall : (H : Type) → List (DataW H) → Bool := fun _ ds => decide (uptoBulkAll ds ≤ 1048576)
def OpenSpec.upto (s : _root_.Go.ChangeSpec) : _root_.Go.OpenSpec := { _root_.Go.OpenSpec.ofChange s with cond := some uptoSmall }

/-- 'stockyardlaw23.RollingSums', WHERE WHAT IT READS IS OF BULK AT MOST 1048576: true; the input reads as it did. -/
def rollingSumsUptoRow : OpenClaim := { program := "ytkcbdgdhcafcpaa", sum := "8c74f675a34c7229b7d3f4d4440f45d9211bc5af7ce79f1d88d98008e994d78f", func := "stockyard/stockyardlaw23.RollingSums", spec := "rollingSums", unfollowed := true, recurses := true, apart := false, narrowed := true }
def RollingSumsUptoSaid : Prop := rollingSumsUptoRow.holds Try.pinned (OpenSpec.upto rollingSumsSpec)

/-- 'stockyardlaw23.RollingAnew', WHERE WHAT IT READS IS OF BULK AT MOST 1048576: true; the input reads as it did. -/
def rollingAnewUptoRow : OpenClaim := { program := "ytkcbdgdhcafcpaa", sum := "8c74f675a34c7229b7d3f4d4440f45d9211bc5af7ce79f1d88d98008e994d78f", func := "stockyard/stockyardlaw23.RollingAnew", spec := "rollingAnew", unfollowed := true, recurses := true, apart := false, narrowed := true }
def RollingAnewUptoSaid : Prop := rollingAnewUptoRow.holds Try.pinned (OpenSpec.upto rollingAnewSpec)

/-- 'stockyardlaw23.RollingSizes', WHERE WHAT IT READS IS OF BULK AT MOST 1048576: true; the input reads as it did. -/
def rollingSizesUptoRow : OpenClaim := { program := "ytkcbdgdhcafcpaa", sum := "8c74f675a34c7229b7d3f4d4440f45d9211bc5af7ce79f1d88d98008e994d78f", func := "stockyard/stockyardlaw23.RollingSizes", spec := "rollingSizes", unfollowed := true, recurses := true, apart := false, narrowed := true }
def RollingSizesUptoSaid : Prop := rollingSizesUptoRow.holds Try.pinned (OpenSpec.upto rollingSizesSpec)

/-- 'stockyardlaw23.RollingForgets', WHERE WHAT IT READS IS OF BULK AT MOST 1048576: true; the input reads as it did. -/
def rollingForgetsUptoRow : OpenClaim := { program := "ytkcbdgdhcafcpaa", sum := "8c74f675a34c7229b7d3f4d4440f45d9211bc5af7ce79f1d88d98008e994d78f", func := "stockyard/stockyardlaw23.RollingForgets", spec := "rollingForgets", unfollowed := true, recurses := true, apart := false, narrowed := true }
def RollingForgetsUptoSaid : Prop := rollingForgetsUptoRow.holds Try.pinned (OpenSpec.upto rollingForgetsSpec)

/-- 'stockyardlaw23.RollingPlays', WHERE WHAT IT READS IS OF BULK AT MOST 1048576: true; the input reads as it did. -/
def rollingPlaysUptoRow : OpenClaim := { program := "ytkcbdgdhcafcpaa", sum := "8c74f675a34c7229b7d3f4d4440f45d9211bc5af7ce79f1d88d98008e994d78f", func := "stockyard/stockyardlaw23.RollingPlays", spec := "rollingPlays", unfollowed := true, recurses := true, apart := false, narrowed := true }
def RollingPlaysUptoSaid : Prop := rollingPlaysUptoRow.holds Try.pinned (OpenSpec.upto rollingPlaysSpec)

/-- 'stockyardlaw23.RollingWide', WHERE WHAT IT READS IS OF BULK AT MOST 1048576: true; the input reads as it did. -/
def rollingWideUptoRow : OpenClaim := { program := "ytkcbdgdhcafcpaa", sum := "8c74f675a34c7229b7d3f4d4440f45d9211bc5af7ce79f1d88d98008e994d78f", func := "stockyard/stockyardlaw23.RollingWide", spec := "rollingWide", unfollowed := true, recurses := true, apart := false, narrowed := true }
def RollingWideUptoSaid : Prop := rollingWideUptoRow.holds Try.pinned (OpenSpec.upto rollingWideSpec)

/-- 'stockyardlaw23.RollingWindow', WHERE WHAT IT READS IS OF BULK AT MOST 1048576: true; the input reads as it did. -/
def rollingWindowUptoRow : OpenClaim := { program := "ytkcbdgdhcafcpaa", sum := "8c74f675a34c7229b7d3f4d4440f45d9211bc5af7ce79f1d88d98008e994d78f", func := "stockyard/stockyardlaw23.RollingWindow", spec := "rollingWindow", unfollowed := true, recurses := true, apart := false, narrowed := true }
def RollingWindowUptoSaid : Prop := rollingWindowUptoRow.holds Try.pinned (OpenSpec.upto rollingWindowSpec)

/-- 'stockyardlaw23.RollingPrefixes', WHERE WHAT IT READS IS OF BULK AT MOST 1048576: true; the input reads as it did. -/
def rollingPrefixesUptoRow : OpenClaim := { program := "ytkcbdgdhcafcpaa", sum := "8c74f675a34c7229b7d3f4d4440f45d9211bc5af7ce79f1d88d98008e994d78f", func := "stockyard/stockyardlaw23.RollingPrefixes", spec := "rollingPrefixes", unfollowed := true, recurses := true, apart := false, narrowed := true }
def RollingPrefixesUptoSaid : Prop := rollingPrefixesUptoRow.holds Try.pinned (OpenSpec.upto rollingPrefixesSpec)

end Rows
end Go.Proofs.Ytkcbdgdhcafcpaa
