/-
  stockyardlaw22.FingerprintPowers returns true.
-/
import Derived.Test.YtadldlijmnohhaaPower
import Derived.Test.YtadldlijmnohhaaHeldK
namespace Go.Proofs.Ytadldlijmnohhaa
set_option linter.unusedVariables false
set_option linter.unusedSimpArgs false
set_option linter.unnecessarySimpa false
open Go.RowKit
attribute [local go_sem ↓] Go.wp_at_zero Go.wp_at_succ

set_option maxHeartbeats 400000 in
theorem lawPowers_any (n : Int) (n0 : -9223372036854775808 ≤ n) (n1 : n ≤ 9223372036854775807) (w : World) :
    Calls Try.prog 7 #[.int .i64 n] w fun e w' => e = .returned (.bool true) ∧ Below w.heap.size w w' := by
  have e0 : powI 0 = 1 := by decide
  go_enter Try.func7, Try.ntmps7
  go_wp2_with fail
  refine (fold_any _ _ n0 n1 (by omega) _).mono ?_
  rintro e w1 ⟨rfl, rfl⟩
  have ef := foldI_lo n 1048577
  have ef1 := foldI_hi n 1048577 (by omega)
  go_wp2_with fail
  refine (power_any _ _).mono ?_
  rintro e wn ⟨rfl, rfl⟩
  rw [e0]
  go_wp2_with fail
  refine (power_any _ _).mono ?_
  rintro e wn ⟨rfl, rfl⟩
  go_wp2_with fail
  refine (refPower_any _ _).mono ?_
  rintro e wn ⟨rfl, rfl⟩
  go_wp2_with fail
  refine (power_any _ _).mono ?_
  rintro e wn ⟨rfl, rfl⟩
  go_wp2_with fail
  refine (refPower_any _ _).mono ?_
  rintro e wn ⟨rfl, rfl⟩
  go_wp2_with fail
  go_ret
  refine ⟨by simp, ?_⟩
  (repeat (first | exact Below.refl _ _ | assumption | refine Below.drew ?_ | refine below_drewN ?_ _ | refine Below.alloc ?_ (by first | omega | (simp; done) | (simp; omega) | (simp [World.setCell]; omega)) _ | refine Below.setCell ?_ (by first | omega | (simp; done) | (simp; omega) | (simp [World.setCell]; omega)) _))

end Go.Proofs.Ytadldlijmnohhaa
