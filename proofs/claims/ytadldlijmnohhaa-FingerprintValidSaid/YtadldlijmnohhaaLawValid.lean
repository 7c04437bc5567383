/-
  stockyardlaw22.FingerprintValid returns true.
-/
import Derived.Test.YtadldlijmnohhaaMade
namespace Go.Proofs.Ytadldlijmnohhaa
set_option linter.unusedVariables false
set_option linter.unusedSimpArgs false
open Go.RowKit Go.Lib
attribute [local go_sem ↓] Go.wp_at_zero Go.wp_at_succ

set_option maxHeartbeats 1000000 in
theorem lawValid_any (s n : Int) (s0 : 0 ≤ s) (s1 : s < 18446744073709551616) (n0 : -9223372036854775808 ≤ n) (n1 : n ≤ 9223372036854775807) (w : World) :
    Calls Try.prog 3 #[.agg #[.int .u64 s, .int .i64 n]] w fun e w' => e = .returned (.bool true) ∧ Below w.heap.size w w' := by
  have v0 : vldB 0 0 = true := by decide
  have v2 : vldB (madeS s n 1048576) (foldI n 1048577) = true := made_vld s n 1048576 (by omega) (by omega)
  obtain ⟨b, hb⟩ : ∃ b, vldB s n = b := ⟨_, rfl⟩
  cases b
  all_goals
    go_enter Try.func3, Try.ntmps3
    go_wp2_with fail
    go_region_held3 (fun w' => w'.cell? ⟨w.heap.size, 0, none⟩ = some (.int .u64 s) ∧ w'.cell? ⟨w.heap.size, 1, none⟩ = some (.int .i64 n) ∧ Below w.heap.size w w' ∧ w.heap.size + 1 ≤ w'.heap.size)
      (first | exact ⟨by go_simp, by go_simp, ((Below.refl _ _).alloc (Nat.le_refl _) _).drew, by simp⟩ | exact held2 (by assumption) (by assumption) (by simp) (by simp) (by simp))
      (first | (go_at_call 15; refine (valid_any _ _ _).mono ?_; rintro e wn ⟨rfl, hbn⟩) | (go_at_call 16; refine (refValid_any _ _ _).mono ?_; rintro e wn ⟨rfl, hbn⟩) | (go_at_call 17; refine (made_any _ _ _ s0 s1 n0 n1 (by omega) (by omega) _).mono ?_; rintro e wn ⟨rfl, hbn⟩))
    go_wp2
    go_ret
    rename_i hH
    exact ⟨rfl, hH.2.2.1⟩

end Go.Proofs.Ytadldlijmnohhaa
