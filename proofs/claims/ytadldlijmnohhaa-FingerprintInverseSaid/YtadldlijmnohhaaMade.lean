/-
  stockyardlaw22.made.
-/
import Derived.Test.YtadldlijmnohhaaHeld
namespace Go.Proofs.Ytadldlijmnohhaa
set_option linter.unusedVariables false
set_option linter.unusedSimpArgs false
set_option linter.unnecessarySimpa false
open Go.RowKit Go.Lib

set_option maxHeartbeats 400000 in
theorem made_any (s z n : Int) (s0 : 0 ≤ s) (s1 : s < 18446744073709551616) (z0 : -9223372036854775808 ≤ z) (z1 : z ≤ 9223372036854775807) (n0 : 0 ≤ n) (n1 : n ≤ 1048576) (w : World) :
    Calls Try.prog 17 #[.int .u64 s, .int .i64 z, .int .i64 n] w fun e w' => e = .returned (.agg #[.int .u64 (madeS s z n), .int .i64 (foldI z (n + 1))]) ∧ Below w.heap.size w w' := by
  go_enter Try.func17, Try.ntmps17
  go_wp2_with fail
  refine (fold_any _ _ z0 z1 (by omega) _).mono ?_
  rintro e w' ⟨rfl, rfl⟩
  go_wp2_with fail
  · have h : (foldI z (n + 1) == 0) = true := by assumption
    have h' : foldI z (n + 1) = 0 := by simpa using h
    refine bodyPost_ret (v := .agg #[.int .u64 (madeS s z n), .int .i64 (foldI z (n + 1))]) ?_ rfl ⟨rfl, ?_⟩
    · rw [madeS_zero h']
      simp [results, Try.results17, go_sem]
    · repeat (first | exact Below.refl _ _ | refine Below.alloc ?_ (by simp) _)
  · have h : (foldI z (n + 1) == 0) = false := by assumption
    have h' : foldI z (n + 1) ≠ 0 := by simpa using h
    refine bodyPost_ret (v := .agg #[.int .u64 (madeS s z n), .int .i64 (foldI z (n + 1))]) ?_ rfl ⟨rfl, ?_⟩
    · rw [madeS_pos h']
      simp [results, Try.results17, go_sem]
    · repeat (first | exact Below.refl _ _ | refine Below.alloc ?_ (by simp) _)

end Go.Proofs.Ytadldlijmnohhaa
