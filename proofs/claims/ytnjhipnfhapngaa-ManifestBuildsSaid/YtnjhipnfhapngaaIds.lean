/-
  stockyardmake.Fold; fingerprint.Valid and the reference's Valid.
-/
import Derived.Test.YtnjhipnfhapngaaFp
namespace Go.Proofs.Ytnjhipnfhapngaa
set_option linter.unusedVariables false
set_option linter.unusedSimpArgs false
set_option linter.unnecessarySimpa false
open Go.RowKit Go.Lib

theorem ret_i64 {a b : Int} (h : a = b) : Ending.returned (.int .i64 a) = .returned (.int .i64 b) := by rw [h]
theorem ret_bool {a b : Bool} (h : a = b) : Ending.returned (.bool a) = .returned (.bool b) := by rw [h]

set_option maxHeartbeats 400000 in
theorem valid_any (s n : Int) (w : World) :
    Calls Try.prog 66 #[.agg #[.int .u64 s, .int .i64 n]] w fun e w' => e = .returned (.bool (vldB s n)) ∧ Below w.heap.size w w' := by
  go_enter Try.func66, Try.ntmps66
  go_wp2
  all_goals go_ret
  all_goals refine ⟨ret_bool ?_, (Below.refl _ _).alloc (Nat.le_refl _) _⟩
  all_goals (rw [Bool.eq_iff_iff, vldB_iff]; first | omega | (simp; done) | (simp; omega))

set_option maxHeartbeats 400000 in
theorem refValid_any (s n : Int) (w : World) :
    Calls Try.prog 65 #[.agg #[.int .u64 s, .int .i64 n]] w fun e w' => e = .returned (.bool (vldB s n)) ∧ Below w.heap.size w w' := by
  go_enter Try.func65, Try.ntmps65
  go_wp2
  all_goals go_ret
  all_goals refine ⟨ret_bool ?_, (Below.refl _ _).alloc (Nat.le_refl _) _⟩
  all_goals (rw [Bool.eq_iff_iff, vldB_iff]; first | omega | (simp; done) | (simp; omega))

set_option maxHeartbeats 400000 in
theorem fold_any (v n : Int) (h0 : -9223372036854775808 ≤ v) (h1 : v ≤ 9223372036854775807) (n1 : n ≤ 9223372036854775807) (w : World) :
    Calls Try.prog 30 #[.int .i64 v, .int .i64 n] w fun e w' => e = .returned (.int .i64 (foldI v n)) ∧ w = w' := by
  go_enter Try.func30, Try.ntmps30
  go_wp2
  all_goals go_ret
  · exact ⟨ret_i64 (foldI_one (by assumption)), rfl⟩
  · have h2 : 1 < n := by assumption
    have h3 : v.tmod n < 0 := by assumption
    refine ⟨ret_i64 ?_, rfl⟩
    rw [IntWalk.wrap64_in _ (by have := tmod_bd v h2; omega)]
    exact foldI_neg h2 h3
  · exact ⟨ret_i64 (foldI_pos (by assumption) (by assumption)), rfl⟩

end Go.Proofs.Ytnjhipnfhapngaa
