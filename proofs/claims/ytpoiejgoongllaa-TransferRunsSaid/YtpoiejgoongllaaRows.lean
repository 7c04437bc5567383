/-
  No cell of these rows narrows 'for every input' (looked for: loops, veiled, ifaces, maps, wideKeys, modest, calm, conditions, laid).
  DERIVED. THE GIVEN ROWS OF THIS SEAT. 8 by the template 'for every input the law returns true; each argument reads behind the call as it read before'; 0 by the template 'total and deterministic' (their statements: YtpoiejgoongllaaTotals.lean).
  GIVEN WITH THE SEED: the statements are not yours to turn. If you find one false, say at which input.
  Laid BY PROGRAM, IN A SANDBOX (cutbox-rows.mjs): the forced cells as the released guide's own fill.sh prints them over the translation 0d224e0c12d97d52… (all of the seat's roots in one cut). By AI agents, Wed Nov 11 2026. No macro, syntax, notation, axiom, sorry.
-/
import Derived.Test.YtpoiejgoongllaaChecked
import GoSem.Claim
import GoSem.ClaimJoined
import GoSem.ClaimMapViews
import Derived.JoinedTies
import Derived.KernelRfl
namespace Go.Proofs.Ytpoiejgoongllaa
/- THE CELL 'sum', in the pinned program and in every row, IS THE sha256 OF THE DUMP (.gsa) THAT YtpoiejgoongllaaProg.lean LOADS. Nothing in Lean hashes anything: it is a label: what it is worth is what the hold of that sum in a sandbox is worth. -/
noncomputable def Try.pinned : Pinned := { name := "ytpoiejgoongllaa", sum := "0d224e0c12d97d522ab387881ae1769c163298afdc8f5c384a52be1996682e1c", checked := Try.checked }
namespace Rows
def none {H : Type} : Left H := { results := [], args := [] }

/-- 'stockyardlaw37.TransferSurvives': WHATEVER THE INPUT: true; the input reads as it did. -/
def transferSurvivesSpec : ChangeSpec := { name := "transferSurvives", fn := fun _ => fun
  | [d] => { results := [.lit (.bool true)], args := [d] }
  | _ => none }
def transferSurvivesRow : OpenClaim := { program := "ytpoiejgoongllaa", sum := "0d224e0c12d97d522ab387881ae1769c163298afdc8f5c384a52be1996682e1c", func := "stockyard/stockyardlaw37.TransferSurvives", spec := "transferSurvives", inPlace := ["slices.overlaps[stockyard/api.Packet]"], unfollowed := true, recurses := true, plainKeys := false, apart := false }
def TransferSurvivesSaid : Prop := transferSurvivesRow.holds Try.pinned (OpenSpec.ofChange transferSurvivesSpec)

/-- ITS FALSE NEIGHBOUR: 'it returns false'. Refute it at one input. -/
def transferSurvivesWrong : ChangeSpec := { name := "transferSurvives", fn := fun _ => fun
  | [d] => { results := [.lit (.bool false)], args := [d] }
  | _ => none }
def TransferSurvivesWrongFalsely : Prop := transferSurvivesRow.holds Try.pinned (OpenSpec.ofChange transferSurvivesWrong)

/-- 'stockyardlaw37.TransferResumes': WHATEVER THE INPUT: true; the input reads as it did. -/
def transferResumesSpec : ChangeSpec := { name := "transferResumes", fn := fun _ => fun
  | [d] => { results := [.lit (.bool true)], args := [d] }
  | _ => none }
def transferResumesRow : OpenClaim := { program := "ytpoiejgoongllaa", sum := "0d224e0c12d97d522ab387881ae1769c163298afdc8f5c384a52be1996682e1c", func := "stockyard/stockyardlaw37.TransferResumes", spec := "transferResumes", inPlace := ["slices.overlaps[stockyard/api.Packet]"], unfollowed := true, recurses := true, plainKeys := false, apart := false }
def TransferResumesSaid : Prop := transferResumesRow.holds Try.pinned (OpenSpec.ofChange transferResumesSpec)

/-- ITS FALSE NEIGHBOUR: 'it returns false'. Refute it at one input. -/
def transferResumesWrong : ChangeSpec := { name := "transferResumes", fn := fun _ => fun
  | [d] => { results := [.lit (.bool false)], args := [d] }
  | _ => none }
def TransferResumesWrongFalsely : Prop := transferResumesRow.holds Try.pinned (OpenSpec.ofChange transferResumesWrong)

/-- 'stockyardlaw37.TransferOnce': WHATEVER THE INPUT: true; the input reads as it did. -/
def transferOnceSpec : ChangeSpec := { name := "transferOnce", fn := fun _ => fun
  | [d] => { results := [.lit (.bool true)], args := [d] }
  | _ => none }
def transferOnceRow : OpenClaim := { program := "ytpoiejgoongllaa", sum := "0d224e0c12d97d522ab387881ae1769c163298afdc8f5c384a52be1996682e1c", func := "stockyard/stockyardlaw37.TransferOnce", spec := "transferOnce", plainKeys := false, apart := false }
def TransferOnceSaid : Prop := transferOnceRow.holds Try.pinned (OpenSpec.ofChange transferOnceSpec)

/-- ITS FALSE NEIGHBOUR: 'it returns false'. Refute it at one input. -/
def transferOnceWrong : ChangeSpec := { name := "transferOnce", fn := fun _ => fun
  | [d] => { results := [.lit (.bool false)], args := [d] }
  | _ => none }
def TransferOnceWrongFalsely : Prop := transferOnceRow.holds Try.pinned (OpenSpec.ofChange transferOnceWrong)

/-- 'stockyardlaw37.TransferPlays': WHATEVER THE INPUT: true; the input reads as it did. -/
def transferPlaysSpec : ChangeSpec := { name := "transferPlays", fn := fun _ => fun
  | [d1, d2, d3] => { results := [.lit (.bool true)], args := [d1, d2, d3] }
  | _ => none }
def transferPlaysRow : OpenClaim := { program := "ytpoiejgoongllaa", sum := "0d224e0c12d97d522ab387881ae1769c163298afdc8f5c384a52be1996682e1c", func := "stockyard/stockyardlaw37.TransferPlays", spec := "transferPlays", plainKeys := false, apart := false }
def TransferPlaysSaid : Prop := transferPlaysRow.holds Try.pinned (OpenSpec.ofChange transferPlaysSpec)

/-- ITS FALSE NEIGHBOUR: 'it returns false'. Refute it at one input. -/
def transferPlaysWrong : ChangeSpec := { name := "transferPlays", fn := fun _ => fun
  | [d1, d2, d3] => { results := [.lit (.bool false)], args := [d1, d2, d3] }
  | _ => none }
def TransferPlaysWrongFalsely : Prop := transferPlaysRow.holds Try.pinned (OpenSpec.ofChange transferPlaysWrong)

/-- 'stockyardlaw37.TransferTrue': WHATEVER THE INPUT: true; the input reads as it did. -/
def transferTrueSpec : ChangeSpec := { name := "transferTrue", fn := fun _ => fun
  | [d1, d2, d3] => { results := [.lit (.bool true)], args := [d1, d2, d3] }
  | _ => none }
def transferTrueRow : OpenClaim := { program := "ytpoiejgoongllaa", sum := "0d224e0c12d97d522ab387881ae1769c163298afdc8f5c384a52be1996682e1c", func := "stockyard/stockyardlaw37.TransferTrue", spec := "transferTrue", plainKeys := false, apart := false }
def TransferTrueSaid : Prop := transferTrueRow.holds Try.pinned (OpenSpec.ofChange transferTrueSpec)

/-- ITS FALSE NEIGHBOUR: 'it returns false'. Refute it at one input. -/
def transferTrueWrong : ChangeSpec := { name := "transferTrue", fn := fun _ => fun
  | [d1, d2, d3] => { results := [.lit (.bool false)], args := [d1, d2, d3] }
  | _ => none }
def TransferTrueWrongFalsely : Prop := transferTrueRow.holds Try.pinned (OpenSpec.ofChange transferTrueWrong)

/-- 'stockyardlaw37.TransferCarries': WHATEVER THE INPUT: true; the input reads as it did. -/
def transferCarriesSpec : ChangeSpec := { name := "transferCarries", fn := fun _ => fun
  | [d1, d2, d3] => { results := [.lit (.bool true)], args := [d1, d2, d3] }
  | _ => none }
def transferCarriesRow : OpenClaim := { program := "ytpoiejgoongllaa", sum := "0d224e0c12d97d522ab387881ae1769c163298afdc8f5c384a52be1996682e1c", func := "stockyard/stockyardlaw37.TransferCarries", spec := "transferCarries", inPlace := ["slices.overlaps[stockyard/api.Packet]"], plainKeys := false, apart := false }
def TransferCarriesSaid : Prop := transferCarriesRow.holds Try.pinned (OpenSpec.ofChange transferCarriesSpec)

/-- ITS FALSE NEIGHBOUR: 'it returns false'. Refute it at one input. -/
def transferCarriesWrong : ChangeSpec := { name := "transferCarries", fn := fun _ => fun
  | [d1, d2, d3] => { results := [.lit (.bool false)], args := [d1, d2, d3] }
  | _ => none }
def TransferCarriesWrongFalsely : Prop := transferCarriesRow.holds Try.pinned (OpenSpec.ofChange transferCarriesWrong)

/-- 'stockyardlaw37.TransferRuns': WHATEVER THE INPUT: true; the input reads as it did. -/
def transferRunsSpec : ChangeSpec := { name := "transferRuns", fn := fun _ => fun
  | [d1, d2] => { results := [.lit (.bool true)], args := [d1, d2] }
  | _ => none }
def transferRunsRow : OpenClaim := { program := "ytpoiejgoongllaa", sum := "0d224e0c12d97d522ab387881ae1769c163298afdc8f5c384a52be1996682e1c", func := "stockyard/stockyardlaw37.TransferRuns", spec := "transferRuns", inPlace := ["slices.overlaps[stockyard/api.Packet]"], unfollowed := true, recurses := true, plainKeys := false, apart := false }
def TransferRunsSaid : Prop := transferRunsRow.holds Try.pinned (OpenSpec.ofChange transferRunsSpec)

/-- ITS FALSE NEIGHBOUR: 'it returns false'. Refute it at one input. -/
def transferRunsWrong : ChangeSpec := { name := "transferRuns", fn := fun _ => fun
  | [d1, d2] => { results := [.lit (.bool false)], args := [d1, d2] }
  | _ => none }
def TransferRunsWrongFalsely : Prop := transferRunsRow.holds Try.pinned (OpenSpec.ofChange transferRunsWrong)

/-- 'stockyardlaw37.TransferEnds': WHATEVER THE INPUT: true; the input reads as it did. -/
def transferEndsSpec : ChangeSpec := { name := "transferEnds", fn := fun _ => fun
  | [d] => { results := [.lit (.bool true)], args := [d] }
  | _ => none }
def transferEndsRow : OpenClaim := { program := "ytpoiejgoongllaa", sum := "0d224e0c12d97d522ab387881ae1769c163298afdc8f5c384a52be1996682e1c", func := "stockyard/stockyardlaw37.TransferEnds", spec := "transferEnds", inPlace := ["slices.overlaps[stockyard/api.Packet]"], unfollowed := true, recurses := true, plainKeys := false, apart := false }
def TransferEndsSaid : Prop := transferEndsRow.holds Try.pinned (OpenSpec.ofChange transferEndsSpec)

/-- ITS FALSE NEIGHBOUR: 'it returns false'. Refute it at one input. -/
def transferEndsWrong : ChangeSpec := { name := "transferEnds", fn := fun _ => fun
  | [d] => { results := [.lit (.bool false)], args := [d] }
  | _ => none }
def TransferEndsWrongFalsely : Prop := transferEndsRow.holds Try.pinned (OpenSpec.ofChange transferEndsWrong)

/- THE SECOND FORM. 'bulk': how many values and letters a reading holds, each counted each time it is reached (what is shared counts as often as it is met; a slice's spare places count too). A statement '..UptoSaid' is the law's where the arguments, and the package variables that the reading takes, are together of bulk at most 1048576: NARROWER than '..Said'. Prove '..Said' where nothing that the law and all that it calls make is longer than what came in: it says more and counts as full. Else prove '..UptoSaid'. A law counts once. -/
mutual
def uptoBulk {H : Type} : DataW H → Nat
  | .lit (.string bytes) => bytes.length + 1
  | .lit _ => 1
  | .nil => 1
  | .ptr d => uptoBulk d + 1
  | .slice elems spare => uptoBulkAll elems + uptoBulkAll spare + 1
  | .agg parts => uptoBulkAll parts + 1
  | .iface _ d => uptoBulk d + 1
  | .map entries => uptoBulkEntries entries + 1
  | .held _ => 1
def uptoBulkAll {H : Type} : List (DataW H) → Nat
  | [] => 0
  | d :: r => uptoBulk d + uptoBulkAll r
def uptoBulkEntries {H : Type} : List (Lit × DataW H) → Nat
  | [] => 0
  | x :: r => uptoBulkEntry x + uptoBulkEntries r
def uptoBulkEntry {H : Type} : Lit × DataW H → Nat
  | (.string bytes, d) => bytes.length + uptoBulk d + 1
  | (_, d) => uptoBulk d + 1
 end
def uptoSmall : (H : Type) → List (DataW H) → Bool := fun _ ds => decide (uptoBulkAll ds ≤ 1048576)
def OpenSpec.upto (s : _root_.Go.ChangeSpec) : _root_.Go.OpenSpec := { _root_.Go.OpenSpec.ofChange s with cond := some uptoSmall }

/-- 'stockyardlaw37.TransferSurvives', WHERE WHAT IT READS IS OF BULK AT MOST 1048576: true; the input reads as it did. -/
def transferSurvivesUptoRow : OpenClaim := { program := "ytpoiejgoongllaa", sum := "0d224e0c12d97d522ab387881ae1769c163298afdc8f5c384a52be1996682e1c", func := "stockyard/stockyardlaw37.TransferSurvives", spec := "transferSurvives", inPlace := ["slices.overlaps[stockyard/api.Packet]"], unfollowed := true, recurses := true, plainKeys := false, apart := false, narrowed := true }
def TransferSurvivesUptoSaid : Prop := transferSurvivesUptoRow.holds Try.pinned (OpenSpec.upto transferSurvivesSpec)

/-- 'stockyardlaw37.TransferResumes', WHERE WHAT IT READS IS OF BULK AT MOST 1048576: true; the input reads as it did. -/
def transferResumesUptoRow : OpenClaim := { program := "ytpoiejgoongllaa", sum := "0d224e0c12d97d522ab387881ae1769c163298afdc8f5c384a52be1996682e1c", func := "stockyard/stockyardlaw37.TransferResumes", spec := "transferResumes", inPlace := ["slices.overlaps[stockyard/api.Packet]"], unfollowed := true, recurses := true, plainKeys := false, apart := false, narrowed := true }
def TransferResumesUptoSaid : Prop := transferResumesUptoRow.holds Try.pinned (OpenSpec.upto transferResumesSpec)

/-- 'stockyardlaw37.TransferOnce', WHERE WHAT IT READS IS OF BULK AT MOST 1048576: true; the input reads as it did. -/
def transferOnceUptoRow : OpenClaim := { program := "ytpoiejgoongllaa", sum := "0d224e0c12d97d522ab387881ae1769c163298afdc8f5c384a52be1996682e1c", func := "stockyard/stockyardlaw37.TransferOnce", spec := "transferOnce", plainKeys := false, apart := false, narrowed := true }
def TransferOnceUptoSaid : Prop := transferOnceUptoRow.holds Try.pinned (OpenSpec.upto transferOnceSpec)

/-- 'stockyardlaw37.TransferPlays', WHERE WHAT IT READS IS OF BULK AT MOST 1048576: true; the input reads as it did. -/
def transferPlaysUptoRow : OpenClaim := { program := "ytpoiejgoongllaa", sum := "0d224e0c12d97d522ab387881ae1769c163298afdc8f5c384a52be1996682e1c", func := "stockyard/stockyardlaw37.TransferPlays", spec := "transferPlays", plainKeys := false, apart := false, narrowed := true }
def TransferPlaysUptoSaid : Prop := transferPlaysUptoRow.holds Try.pinned (OpenSpec.upto transferPlaysSpec)

/-- 'stockyardlaw37.TransferTrue', WHERE WHAT IT READS IS OF BULK AT MOST 1048576: true; the input reads as it did. -/
def transferTrueUptoRow : OpenClaim := { program := "ytpoiejgoongllaa", sum := "0d224e0c12d97d522ab387881ae1769c163298afdc8f5c384a52be1996682e1c", func := "stockyard/stockyardlaw37.TransferTrue", spec := "transferTrue", plainKeys := false, apart := false, narrowed := true }
def TransferTrueUptoSaid : Prop := transferTrueUptoRow.holds Try.pinned (OpenSpec.upto transferTrueSpec)

/-- 'stockyardlaw37.TransferCarries', WHERE WHAT IT READS IS OF BULK AT MOST 1048576: true; the input reads as it did. -/
def transferCarriesUptoRow : OpenClaim := { program := "ytpoiejgoongllaa", sum := "0d224e0c12d97d522ab387881ae1769c163298afdc8f5c384a52be1996682e1c", func := "stockyard/stockyardlaw37.TransferCarries", spec := "transferCarries", inPlace := ["slices.overlaps[stockyard/api.Packet]"], plainKeys := false, apart := false, narrowed := true }
def TransferCarriesUptoSaid : Prop := transferCarriesUptoRow.holds Try.pinned (OpenSpec.upto transferCarriesSpec)

/-- 'stockyardlaw37.TransferRuns', WHERE WHAT IT READS IS OF BULK AT MOST 1048576: true; the input reads as it did. -/
def transferRunsUptoRow : OpenClaim := { program := "ytpoiejgoongllaa", sum := "0d224e0c12d97d522ab387881ae1769c163298afdc8f5c384a52be1996682e1c", func := "stockyard/stockyardlaw37.TransferRuns", spec := "transferRuns", inPlace := ["slices.overlaps[stockyard/api.Packet]"], unfollowed := true, recurses := true, plainKeys := false, apart := false, narrowed := true }
def TransferRunsUptoSaid : Prop := transferRunsUptoRow.holds Try.pinned (OpenSpec.upto transferRunsSpec)

/-- 'stockyardlaw37.TransferEnds', WHERE WHAT IT READS IS OF BULK AT MOST 1048576: true; the input reads as it did. -/
def transferEndsUptoRow : OpenClaim := { program := "ytpoiejgoongllaa", sum := "0d224e0c12d97d522ab387881ae1769c163298afdc8f5c384a52be1996682e1c", func := "stockyard/stockyardlaw37.TransferEnds", spec := "transferEnds", inPlace := ["slices.overlaps[stockyard/api.Packet]"], unfollowed := true, recurses := true, plainKeys := false, apart := false, narrowed := true }
def TransferEndsUptoSaid : Prop := transferEndsUptoRow.holds Try.pinned (OpenSpec.upto transferEndsSpec)

end Rows
end Go.Proofs.Ytpoiejgoongllaa
