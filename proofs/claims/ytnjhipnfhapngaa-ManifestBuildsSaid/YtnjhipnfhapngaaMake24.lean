/-
  stockyardlaw24.made, text, ends, known.
-/
import Derived.Test.YtnjhipnfhapngaaTape
import Derived.Test.YtnjhipnfhapngaaEnds
import Derived.Test.YtnjhipnfhapngaaSameInts
namespace Go.Proofs.Ytnjhipnfhapngaa
set_option linter.unusedVariables false
set_option linter.unusedSimpArgs false
set_option linter.unnecessarySimpa false
open Go.RowKit
attribute [local go_sem ↓] Go.wp_at_zero Go.wp_at_succ

/-- small parameters, with a mask of the lowest j bits -/
structure Small (c : CutZ) : Prop where
  ok : c.Ok
  mask : ∃ j : Nat, j < 5 ∧ c.mask = 2 ^ j - 1
def MadeRes (t B M : Nat) (w : World) (e : Ending) (w' : World) : Prop := ∃ c : CutZ, e = .returned (cutV c.mn c.mx c.wn c.mask) ∧ Small c ∧ Tp w' t B (M + 4) ∧ Ch (At t) w w'

/-- a text out of the tape, of at most n bytes -/
def TextRes (t B M n : Nat) (w : World) (e : Ending) (w' : World) : Prop := ∃ (A : Option Addr) (cap : Nat) (zs : List Int), e = .returned (.slice A zs.length cap) ∧ zs.length ≤ n ∧ (∀ z ∈ zs, 0 ≤ z ∧ z ≤ 255) ∧
  w'.ownsRow w.heap.size 5 1 (.slice A zs.length cap) zs.length (zs.map (.int .u8)) ∧ Tp w' t B (M + 2 + n) ∧ Ch (At t) w w'

theorem known24_ends : endsZ ⟨2, 4, 1, 1⟩ [1, 1, 0, 0, 0, 0, 3, 5] = [2, 6, 8] := by decide +kernel
theorem natV_map (l : List Nat) : natV l = (l.map fun n : Nat => (n : Int)).map (.int .i64) := by simp [natV]

end Go.Proofs.Ytnjhipnfhapngaa
