/-
  stockyardmake.Fold; fingerprint.Valid and the reference's Valid.
-/
import Derived.Test.YtnbbbmmpkjiejaaFp
namespace Go.Proofs.Ytnbbbmmpkjiejaa
set_option linter.unusedVariables false
set_option linter.unusedSimpArgs false
set_option linter.unnecessarySimpa false
open Go.RowKit Go.Lib

theorem ret_i64 {a b : Int} (h : a = b) : Ending.returned (.int .i64 a) = .returned (.int .i64 b) := by rw [h]
theorem ret_bool {a b : Bool} (h : a = b) : Ending.returned (.bool a) = .returned (.bool b) := by rw [h]

set_option maxHeartbeats 400000 in
theorem fold_any (v n : Int) (h0 : -9223372036854775808 ≤ v) (h1 : v ≤ 9223372036854775807) (n1 : n ≤ 9223372036854775807) (w : World) :
    Calls Try.prog 18 #[.int .i64 v, .int .i64 n] w fun e w' => e = .returned (.int .i64 (foldI v n)) ∧ w = w' := by
  go_enter Try.func18, Try.ntmps18
  go_wp2
  all_goals go_ret
  · exact ⟨ret_i64 (foldI_one (by assumption)), rfl⟩
  · have h2 : 1 < n := by assumption
    have h3 : v.tmod n < 0 := by assumption
    refine ⟨ret_i64 ?_, rfl⟩
    rw [IntWalk.wrap64_in _ (by have := tmod_bd v h2; omega)]
    exact foldI_neg h2 h3
  · exact ⟨ret_i64 (foldI_pos (by assumption) (by assumption)), rfl⟩

end Go.Proofs.Ytnbbbmmpkjiejaa
