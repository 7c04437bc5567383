/-
  No cell of these rows narrows 'for every input' (looked for: loops, veiled, ifaces, maps, wideKeys, modest, calm, conditions, laid).
  DERIVED. THE GIVEN ROWS OF THIS SEAT. 12 by the template 'for every input the law returns true; each argument reads behind the call as it read before'; 0 by the template 'total and deterministic' (their statements: YtnjhipnfhapngaaTotals.lean).
  GIVEN WITH THE SEED: the statements are not yours to turn. If you find one false, say at which input.
  Laid BY PROGRAM, IN A SANDBOX (cutbox-rows.mjs): the forced cells as the released guide's own fill.sh prints them over the translation 859f646220ce24c2… (all of the seat's roots in one cut). By AI agents, Wed Nov 11 2026. No macro, syntax, notation, axiom, sorry.
-/
import Derived.Test.YtnjhipnfhapngaaChecked
import GoSem.Claim
import GoSem.ClaimJoined
import GoSem.ClaimMapViews
import Derived.JoinedTies
import Derived.KernelRfl
namespace Go.Proofs.Ytnjhipnfhapngaa
/- THE CELL 'sum', in the pinned program and in every row, IS THE sha256 OF THE DUMP (.gsa) THAT YtnjhipnfhapngaaProg.lean LOADS. Nothing in Lean hashes anything: it is a label: what it is worth is what the hold of that sum in a sandbox is worth. -/
noncomputable def Try.pinned : Pinned := { name := "ytnjhipnfhapngaa", sum := "859f646220ce24c277d83a990272ffe5cdace0d54ccaa5f1f54ed0d8ca54f0a0", checked := Try.checked }
namespace Rows
def none {H : Type} : Left H := { results := [], args := [] }

/-- 'stockyardlaw25.ManifestAssembles': WHATEVER THE INPUT: true; the input reads as it did. -/
def manifestAssemblesSpec : ChangeSpec := { name := "manifestAssembles", fn := fun _ => fun
  | [d1, d2] => { results := [.lit (.bool true)], args := [d1, d2] }
  | _ => none }
def manifestAssemblesRow : OpenClaim := { program := "ytnjhipnfhapngaa", sum := "859f646220ce24c277d83a990272ffe5cdace0d54ccaa5f1f54ed0d8ca54f0a0", func := "stockyard/stockyardlaw25.ManifestAssembles", spec := "manifestAssembles", plainKeys := false, apart := false }
def ManifestAssemblesSaid : Prop := manifestAssemblesRow.holds Try.pinned (OpenSpec.ofChange manifestAssemblesSpec)

/-- ITS FALSE NEIGHBOUR: 'it returns false'. Refute it at one input. -/
def manifestAssemblesWrong : ChangeSpec := { name := "manifestAssembles", fn := fun _ => fun
  | [d1, d2] => { results := [.lit (.bool false)], args := [d1, d2] }
  | _ => none }
def ManifestAssemblesWrongFalsely : Prop := manifestAssemblesRow.holds Try.pinned (OpenSpec.ofChange manifestAssemblesWrong)

/-- 'stockyardlaw25.ManifestRanges': WHATEVER THE INPUT: true; the input reads as it did. -/
def manifestRangesSpec : ChangeSpec := { name := "manifestRanges", fn := fun _ => fun
  | [d] => { results := [.lit (.bool true)], args := [d] }
  | _ => none }
def manifestRangesRow : OpenClaim := { program := "ytnjhipnfhapngaa", sum := "859f646220ce24c277d83a990272ffe5cdace0d54ccaa5f1f54ed0d8ca54f0a0", func := "stockyard/stockyardlaw25.ManifestRanges", spec := "manifestRanges", plainKeys := false, apart := false }
def ManifestRangesSaid : Prop := manifestRangesRow.holds Try.pinned (OpenSpec.ofChange manifestRangesSpec)

/-- ITS FALSE NEIGHBOUR: 'it returns false'. Refute it at one input. -/
def manifestRangesWrong : ChangeSpec := { name := "manifestRanges", fn := fun _ => fun
  | [d] => { results := [.lit (.bool false)], args := [d] }
  | _ => none }
def ManifestRangesWrongFalsely : Prop := manifestRangesRow.holds Try.pinned (OpenSpec.ofChange manifestRangesWrong)

/-- 'stockyardlaw25.ManifestSlices': WHATEVER THE INPUT: true; the input reads as it did. -/
def manifestSlicesSpec : ChangeSpec := { name := "manifestSlices", fn := fun _ => fun
  | [d1, d2, d3] => { results := [.lit (.bool true)], args := [d1, d2, d3] }
  | _ => none }
def manifestSlicesRow : OpenClaim := { program := "ytnjhipnfhapngaa", sum := "859f646220ce24c277d83a990272ffe5cdace0d54ccaa5f1f54ed0d8ca54f0a0", func := "stockyard/stockyardlaw25.ManifestSlices", spec := "manifestSlices", plainKeys := false, apart := false }
def ManifestSlicesSaid : Prop := manifestSlicesRow.holds Try.pinned (OpenSpec.ofChange manifestSlicesSpec)

/-- ITS FALSE NEIGHBOUR: 'it returns false'. Refute it at one input. -/
def manifestSlicesWrong : ChangeSpec := { name := "manifestSlices", fn := fun _ => fun
  | [d1, d2, d3] => { results := [.lit (.bool false)], args := [d1, d2, d3] }
  | _ => none }
def ManifestSlicesWrongFalsely : Prop := manifestSlicesRow.holds Try.pinned (OpenSpec.ofChange manifestSlicesWrong)

/-- 'stockyardlaw25.ManifestFinds': WHATEVER THE INPUT: true; the input reads as it did. -/
def manifestFindsSpec : ChangeSpec := { name := "manifestFinds", fn := fun _ => fun
  | [d1, d2] => { results := [.lit (.bool true)], args := [d1, d2] }
  | _ => none }
def manifestFindsRow : OpenClaim := { program := "ytnjhipnfhapngaa", sum := "859f646220ce24c277d83a990272ffe5cdace0d54ccaa5f1f54ed0d8ca54f0a0", func := "stockyard/stockyardlaw25.ManifestFinds", spec := "manifestFinds", plainKeys := false, apart := false }
def ManifestFindsSaid : Prop := manifestFindsRow.holds Try.pinned (OpenSpec.ofChange manifestFindsSpec)

/-- ITS FALSE NEIGHBOUR: 'it returns false'. Refute it at one input. -/
def manifestFindsWrong : ChangeSpec := { name := "manifestFinds", fn := fun _ => fun
  | [d1, d2] => { results := [.lit (.bool false)], args := [d1, d2] }
  | _ => none }
def ManifestFindsWrongFalsely : Prop := manifestFindsRow.holds Try.pinned (OpenSpec.ofChange manifestFindsWrong)

/-- 'stockyardlaw25.ManifestLacks': WHATEVER THE INPUT: true; the input reads as it did. -/
def manifestLacksSpec : ChangeSpec := { name := "manifestLacks", fn := fun _ => fun
  | [d1, d2] => { results := [.lit (.bool true)], args := [d1, d2] }
  | _ => none }
def manifestLacksRow : OpenClaim := { program := "ytnjhipnfhapngaa", sum := "859f646220ce24c277d83a990272ffe5cdace0d54ccaa5f1f54ed0d8ca54f0a0", func := "stockyard/stockyardlaw25.ManifestLacks", spec := "manifestLacks", plainKeys := false, apart := false }
def ManifestLacksSaid : Prop := manifestLacksRow.holds Try.pinned (OpenSpec.ofChange manifestLacksSpec)

/-- ITS FALSE NEIGHBOUR: 'it returns false'. Refute it at one input. -/
def manifestLacksWrong : ChangeSpec := { name := "manifestLacks", fn := fun _ => fun
  | [d1, d2] => { results := [.lit (.bool false)], args := [d1, d2] }
  | _ => none }
def ManifestLacksWrongFalsely : Prop := manifestLacksRow.holds Try.pinned (OpenSpec.ofChange manifestLacksWrong)

/-- 'stockyardlaw25.ManifestForms': WHATEVER THE INPUT: true; the input reads as it did. -/
def manifestFormsSpec : ChangeSpec := { name := "manifestForms", fn := fun _ => fun
  | [d1, d2] => { results := [.lit (.bool true)], args := [d1, d2] }
  | _ => none }
def manifestFormsRow : OpenClaim := { program := "ytnjhipnfhapngaa", sum := "859f646220ce24c277d83a990272ffe5cdace0d54ccaa5f1f54ed0d8ca54f0a0", func := "stockyard/stockyardlaw25.ManifestForms", spec := "manifestForms", unfollowed := true, recurses := true, plainKeys := false, apart := false }
def ManifestFormsSaid : Prop := manifestFormsRow.holds Try.pinned (OpenSpec.ofChange manifestFormsSpec)

/-- ITS FALSE NEIGHBOUR: 'it returns false'. Refute it at one input. -/
def manifestFormsWrong : ChangeSpec := { name := "manifestForms", fn := fun _ => fun
  | [d1, d2] => { results := [.lit (.bool false)], args := [d1, d2] }
  | _ => none }
def ManifestFormsWrongFalsely : Prop := manifestFormsRow.holds Try.pinned (OpenSpec.ofChange manifestFormsWrong)

/-- 'stockyardlaw25.ManifestTrue': WHATEVER THE INPUT: true; the input reads as it did. -/
def manifestTrueSpec : ChangeSpec := { name := "manifestTrue", fn := fun _ => fun
  | [d1, d2] => { results := [.lit (.bool true)], args := [d1, d2] }
  | _ => none }
def manifestTrueRow : OpenClaim := { program := "ytnjhipnfhapngaa", sum := "859f646220ce24c277d83a990272ffe5cdace0d54ccaa5f1f54ed0d8ca54f0a0", func := "stockyard/stockyardlaw25.ManifestTrue", spec := "manifestTrue", plainKeys := false, apart := false }
def ManifestTrueSaid : Prop := manifestTrueRow.holds Try.pinned (OpenSpec.ofChange manifestTrueSpec)

/-- ITS FALSE NEIGHBOUR: 'it returns false'. Refute it at one input. -/
def manifestTrueWrong : ChangeSpec := { name := "manifestTrue", fn := fun _ => fun
  | [d1, d2] => { results := [.lit (.bool false)], args := [d1, d2] }
  | _ => none }
def ManifestTrueWrongFalsely : Prop := manifestTrueRow.holds Try.pinned (OpenSpec.ofChange manifestTrueWrong)

/-- 'stockyardlaw25.ManifestChecks': WHATEVER THE INPUT: true; the input reads as it did. -/
def manifestChecksSpec : ChangeSpec := { name := "manifestChecks", fn := fun _ => fun
  | [d1, d2] => { results := [.lit (.bool true)], args := [d1, d2] }
  | _ => none }
def manifestChecksRow : OpenClaim := { program := "ytnjhipnfhapngaa", sum := "859f646220ce24c277d83a990272ffe5cdace0d54ccaa5f1f54ed0d8ca54f0a0", func := "stockyard/stockyardlaw25.ManifestChecks", spec := "manifestChecks", plainKeys := false, apart := false }
def ManifestChecksSaid : Prop := manifestChecksRow.holds Try.pinned (OpenSpec.ofChange manifestChecksSpec)

/-- ITS FALSE NEIGHBOUR: 'it returns false'. Refute it at one input. -/
def manifestChecksWrong : ChangeSpec := { name := "manifestChecks", fn := fun _ => fun
  | [d1, d2] => { results := [.lit (.bool false)], args := [d1, d2] }
  | _ => none }
def ManifestChecksWrongFalsely : Prop := manifestChecksRow.holds Try.pinned (OpenSpec.ofChange manifestChecksWrong)

/-- 'stockyardlaw25.ManifestConcats': WHATEVER THE INPUT: true; the input reads as it did. -/
def manifestConcatsSpec : ChangeSpec := { name := "manifestConcats", fn := fun _ => fun
  | [d] => { results := [.lit (.bool true)], args := [d] }
  | _ => none }
def manifestConcatsRow : OpenClaim := { program := "ytnjhipnfhapngaa", sum := "859f646220ce24c277d83a990272ffe5cdace0d54ccaa5f1f54ed0d8ca54f0a0", func := "stockyard/stockyardlaw25.ManifestConcats", spec := "manifestConcats", plainKeys := false, apart := false }
def ManifestConcatsSaid : Prop := manifestConcatsRow.holds Try.pinned (OpenSpec.ofChange manifestConcatsSpec)

/-- ITS FALSE NEIGHBOUR: 'it returns false'. Refute it at one input. -/
def manifestConcatsWrong : ChangeSpec := { name := "manifestConcats", fn := fun _ => fun
  | [d] => { results := [.lit (.bool false)], args := [d] }
  | _ => none }
def ManifestConcatsWrongFalsely : Prop := manifestConcatsRow.holds Try.pinned (OpenSpec.ofChange manifestConcatsWrong)

/-- 'stockyardlaw25.ManifestBuilds': WHATEVER THE INPUT: true; the input reads as it did. -/
def manifestBuildsSpec : ChangeSpec := { name := "manifestBuilds", fn := fun _ => fun
  | [d] => { results := [.lit (.bool true)], args := [d] }
  | _ => none }
def manifestBuildsRow : OpenClaim := { program := "ytnjhipnfhapngaa", sum := "859f646220ce24c277d83a990272ffe5cdace0d54ccaa5f1f54ed0d8ca54f0a0", func := "stockyard/stockyardlaw25.ManifestBuilds", spec := "manifestBuilds", plainKeys := false, apart := false }
def ManifestBuildsSaid : Prop := manifestBuildsRow.holds Try.pinned (OpenSpec.ofChange manifestBuildsSpec)

/-- ITS FALSE NEIGHBOUR: 'it returns false'. Refute it at one input. -/
def manifestBuildsWrong : ChangeSpec := { name := "manifestBuilds", fn := fun _ => fun
  | [d] => { results := [.lit (.bool false)], args := [d] }
  | _ => none }
def ManifestBuildsWrongFalsely : Prop := manifestBuildsRow.holds Try.pinned (OpenSpec.ofChange manifestBuildsWrong)

/-- 'stockyardlaw25.ManifestEdits': WHATEVER THE INPUT: true; the input reads as it did. -/
def manifestEditsSpec : ChangeSpec := { name := "manifestEdits", fn := fun _ => fun
  | [d] => { results := [.lit (.bool true)], args := [d] }
  | _ => none }
def manifestEditsRow : OpenClaim := { program := "ytnjhipnfhapngaa", sum := "859f646220ce24c277d83a990272ffe5cdace0d54ccaa5f1f54ed0d8ca54f0a0", func := "stockyard/stockyardlaw25.ManifestEdits", spec := "manifestEdits", plainKeys := false, apart := false }
def ManifestEditsSaid : Prop := manifestEditsRow.holds Try.pinned (OpenSpec.ofChange manifestEditsSpec)

/-- ITS FALSE NEIGHBOUR: 'it returns false'. Refute it at one input. -/
def manifestEditsWrong : ChangeSpec := { name := "manifestEdits", fn := fun _ => fun
  | [d] => { results := [.lit (.bool false)], args := [d] }
  | _ => none }
def ManifestEditsWrongFalsely : Prop := manifestEditsRow.holds Try.pinned (OpenSpec.ofChange manifestEditsWrong)

/-- 'stockyardlaw25.ManifestBack': WHATEVER THE INPUT: true; the input reads as it did. -/
def manifestBackSpec : ChangeSpec := { name := "manifestBack", fn := fun _ => fun
  | [d] => { results := [.lit (.bool true)], args := [d] }
  | _ => none }
def manifestBackRow : OpenClaim := { program := "ytnjhipnfhapngaa", sum := "859f646220ce24c277d83a990272ffe5cdace0d54ccaa5f1f54ed0d8ca54f0a0", func := "stockyard/stockyardlaw25.ManifestBack", spec := "manifestBack", plainKeys := false, apart := false }
def ManifestBackSaid : Prop := manifestBackRow.holds Try.pinned (OpenSpec.ofChange manifestBackSpec)

/-- ITS FALSE NEIGHBOUR: 'it returns false'. Refute it at one input. -/
def manifestBackWrong : ChangeSpec := { name := "manifestBack", fn := fun _ => fun
  | [d] => { results := [.lit (.bool false)], args := [d] }
  | _ => none }
def ManifestBackWrongFalsely : Prop := manifestBackRow.holds Try.pinned (OpenSpec.ofChange manifestBackWrong)

/- THE SECOND FORM. 'bulk': how many values and letters a reading holds, each counted each time it is reached (what is shared counts as often as it is met; a slice's spare places count too). A statement '..UptoSaid' is the law's where the arguments, and the package variables that the reading takes, are together of bulk at most 1048576: NARROWER than '..Said'. Prove '..Said' where nothing that the law and all that it calls make is longer than what came in: it says more and counts as full. Else prove '..UptoSaid'. A law counts once. -/
mutual
def uptoBulk {H : Type} : DataW H → Nat
  | .lit (.string bytes) => bytes.length + 1
  | .lit _ => 1
  | .nil => 1
  | .ptr d => uptoBulk d + 1
  | .slice elems spare => uptoBulkAll elems + uptoBulkAll spare + 1
  | .agg parts => uptoBulkAll parts + 1
  | .iface _ d => uptoBulk d + 1
  | .map entries => uptoBulkEntries entries + 1
  | .held _ => 1
def uptoBulkAll {H : Type} : List (DataW H) → Nat
  | [] => 0
  | d :: r => uptoBulk d + uptoBulkAll r
def uptoBulkEntries {H : Type} : List (Lit × DataW H) → Nat
  | [] => 0
  | x :: r => uptoBulkEntry x + uptoBulkEntries r
def uptoBulkEntry {H : Type} : Lit × DataW H → Nat
  | (.string bytes, d) => bytes.length + uptoBulk d + 1
  | (_, d) => uptoBulk d + 1
 end
def uptoSmall : (H : Type) → List (DataW H) → Bool := fun _ ds => decide (uptoBulkAll ds ≤ 1048576)
def OpenSpec.upto (s : _root_.Go.ChangeSpec) : _root_.Go.OpenSpec := { _root_.Go.OpenSpec.ofChange s with cond := some uptoSmall }

/-- 'stockyardlaw25.ManifestAssembles', WHERE WHAT IT READS IS OF BULK AT MOST 1048576: true; the input reads as it did. -/
def manifestAssemblesUptoRow : OpenClaim := { program := "ytnjhipnfhapngaa", sum := "859f646220ce24c277d83a990272ffe5cdace0d54ccaa5f1f54ed0d8ca54f0a0", func := "stockyard/stockyardlaw25.ManifestAssembles", spec := "manifestAssembles", plainKeys := false, apart := false, narrowed := true }
def ManifestAssemblesUptoSaid : Prop := manifestAssemblesUptoRow.holds Try.pinned (OpenSpec.upto manifestAssemblesSpec)

/-- 'stockyardlaw25.ManifestRanges', WHERE WHAT IT READS IS OF BULK AT MOST 1048576: true; the input reads as it did. -/
def manifestRangesUptoRow : OpenClaim := { program := "ytnjhipnfhapngaa", sum := "859f646220ce24c277d83a990272ffe5cdace0d54ccaa5f1f54ed0d8ca54f0a0", func := "stockyard/stockyardlaw25.ManifestRanges", spec := "manifestRanges", plainKeys := false, apart := false, narrowed := true }
def ManifestRangesUptoSaid : Prop := manifestRangesUptoRow.holds Try.pinned (OpenSpec.upto manifestRangesSpec)

/-- 'stockyardlaw25.ManifestSlices', WHERE WHAT IT READS IS OF BULK AT MOST 1048576: true; the input reads as it did. -/
def manifestSlicesUptoRow : OpenClaim := { program := "ytnjhipnfhapngaa", sum := "859f646220ce24c277d83a990272ffe5cdace0d54ccaa5f1f54ed0d8ca54f0a0", func := "stockyard/stockyardlaw25.ManifestSlices", spec := "manifestSlices", plainKeys := false, apart := false, narrowed := true }
def ManifestSlicesUptoSaid : Prop := manifestSlicesUptoRow.holds Try.pinned (OpenSpec.upto manifestSlicesSpec)

/-- 'stockyardlaw25.ManifestFinds', WHERE WHAT IT READS IS OF BULK AT MOST 1048576: true; the input reads as it did. -/
def manifestFindsUptoRow : OpenClaim := { program := "ytnjhipnfhapngaa", sum := "859f646220ce24c277d83a990272ffe5cdace0d54ccaa5f1f54ed0d8ca54f0a0", func := "stockyard/stockyardlaw25.ManifestFinds", spec := "manifestFinds", plainKeys := false, apart := false, narrowed := true }
def ManifestFindsUptoSaid : Prop := manifestFindsUptoRow.holds Try.pinned (OpenSpec.upto manifestFindsSpec)

/-- 'stockyardlaw25.ManifestLacks', WHERE WHAT IT READS IS OF BULK AT MOST 1048576: true; the input reads as it did. -/
def manifestLacksUptoRow : OpenClaim := { program := "ytnjhipnfhapngaa", sum := "859f646220ce24c277d83a990272ffe5cdace0d54ccaa5f1f54ed0d8ca54f0a0", func := "stockyard/stockyardlaw25.ManifestLacks", spec := "manifestLacks", plainKeys := false, apart := false, narrowed := true }
def ManifestLacksUptoSaid : Prop := manifestLacksUptoRow.holds Try.pinned (OpenSpec.upto manifestLacksSpec)

/-- 'stockyardlaw25.ManifestForms', WHERE WHAT IT READS IS OF BULK AT MOST 1048576: true; the input reads as it did. -/
def manifestFormsUptoRow : OpenClaim := { program := "ytnjhipnfhapngaa", sum := "859f646220ce24c277d83a990272ffe5cdace0d54ccaa5f1f54ed0d8ca54f0a0", func := "stockyard/stockyardlaw25.ManifestForms", spec := "manifestForms", unfollowed := true, recurses := true, plainKeys := false, apart := false, narrowed := true }
def ManifestFormsUptoSaid : Prop := manifestFormsUptoRow.holds Try.pinned (OpenSpec.upto manifestFormsSpec)

/-- 'stockyardlaw25.ManifestTrue', WHERE WHAT IT READS IS OF BULK AT MOST 1048576: true; the input reads as it did. -/
def manifestTrueUptoRow : OpenClaim := { program := "ytnjhipnfhapngaa", sum := "859f646220ce24c277d83a990272ffe5cdace0d54ccaa5f1f54ed0d8ca54f0a0", func := "stockyard/stockyardlaw25.ManifestTrue", spec := "manifestTrue", plainKeys := false, apart := false, narrowed := true }
def ManifestTrueUptoSaid : Prop := manifestTrueUptoRow.holds Try.pinned (OpenSpec.upto manifestTrueSpec)

/-- 'stockyardlaw25.ManifestChecks', WHERE WHAT IT READS IS OF BULK AT MOST 1048576: true; the input reads as it did. -/
def manifestChecksUptoRow : OpenClaim := { program := "ytnjhipnfhapngaa", sum := "859f646220ce24c277d83a990272ffe5cdace0d54ccaa5f1f54ed0d8ca54f0a0", func := "stockyard/stockyardlaw25.ManifestChecks", spec := "manifestChecks", plainKeys := false, apart := false, narrowed := true }
def ManifestChecksUptoSaid : Prop := manifestChecksUptoRow.holds Try.pinned (OpenSpec.upto manifestChecksSpec)

/-- 'stockyardlaw25.ManifestConcats', WHERE WHAT IT READS IS OF BULK AT MOST 1048576: true; the input reads as it did. -/
def manifestConcatsUptoRow : OpenClaim := { program := "ytnjhipnfhapngaa", sum := "859f646220ce24c277d83a990272ffe5cdace0d54ccaa5f1f54ed0d8ca54f0a0", func := "stockyard/stockyardlaw25.ManifestConcats", spec := "manifestConcats", plainKeys := false, apart := false, narrowed := true }
def ManifestConcatsUptoSaid : Prop := manifestConcatsUptoRow.holds Try.pinned (OpenSpec.upto manifestConcatsSpec)

/-- 'stockyardlaw25.ManifestBuilds', WHERE WHAT IT READS IS OF BULK AT MOST 1048576: true; the input reads as it did. -/
def manifestBuildsUptoRow : OpenClaim := { program := "ytnjhipnfhapngaa", sum := "859f646220ce24c277d83a990272ffe5cdace0d54ccaa5f1f54ed0d8ca54f0a0", func := "stockyard/stockyardlaw25.ManifestBuilds", spec := "manifestBuilds", plainKeys := false, apart := false, narrowed := true }
def ManifestBuildsUptoSaid : Prop := manifestBuildsUptoRow.holds Try.pinned (OpenSpec.upto manifestBuildsSpec)

/-- 'stockyardlaw25.ManifestEdits', WHERE WHAT IT READS IS OF BULK AT MOST 1048576: true; the input reads as it did. -/
def manifestEditsUptoRow : OpenClaim := { program := "ytnjhipnfhapngaa", sum := "859f646220ce24c277d83a990272ffe5cdace0d54ccaa5f1f54ed0d8ca54f0a0", func := "stockyard/stockyardlaw25.ManifestEdits", spec := "manifestEdits", plainKeys := false, apart := false, narrowed := true }
def ManifestEditsUptoSaid : Prop := manifestEditsUptoRow.holds Try.pinned (OpenSpec.upto manifestEditsSpec)

/-- 'stockyardlaw25.ManifestBack', WHERE WHAT IT READS IS OF BULK AT MOST 1048576: true; the input reads as it did. -/
def manifestBackUptoRow : OpenClaim := { program := "ytnjhipnfhapngaa", sum := "859f646220ce24c277d83a990272ffe5cdace0d54ccaa5f1f54ed0d8ca54f0a0", func := "stockyard/stockyardlaw25.ManifestBack", spec := "manifestBack", plainKeys := false, apart := false, narrowed := true }
def ManifestBackUptoSaid : Prop := manifestBackUptoRow.holds Try.pinned (OpenSpec.upto manifestBackSpec)

end Rows
end Go.Proofs.Ytnjhipnfhapngaa
