/-
  stockyardlaw22.FingerprintSums returns true.
-/
import Derived.Test.YtadldlijmnohhaaOf
import Derived.Test.YtadldlijmnohhaaKnown22
namespace Go.Proofs.Ytadldlijmnohhaa
set_option linter.unusedVariables false
set_option linter.unusedSimpArgs false
set_option linter.unnecessarySimpa false
open Go.RowKit
attribute [local go_sem ↓] Go.wp_at_zero Go.wp_at_succ

set_option maxHeartbeats 1000000 in
theorem lawSums_any (A : Option Addr) (cap : Nat) (zs : List Int) (w : World) (hr : Row w w.heap.size A (zs.map (.int .u8))) (hz : ∀ z ∈ zs, 0 ≤ z ∧ z ≤ 255) (hm : zs.length ≤ 140737488355328) :
    Calls Try.prog 6 #[.slice A zs.length cap] w fun e w' => e = .returned (.bool true) ∧ Below w.heap.size w w' := by
  have Hz := Lib.hid hz
  clear hz
  go_enter Try.func6, Try.ntmps6
  go_wp2_with fail
  refine (known22_any _).mono ?_
  rintro e w1 ⟨rfl, hb1⟩
  have hr1 := hr.below hb1 (Nat.le_refl _)
  go_wp2_with fail
  refine (sum_any A cap _ zs w1 hr1 Hz.out (by omega)).mono ?_
  rintro e wn ⟨rfl, rfl⟩
  go_wp2_with fail
  refine (refSum_any A cap _ zs w1 hr1 Hz.out (by omega)).mono ?_
  rintro e w2 ⟨rfl, n, rfl⟩
  have hr2 : Row (w1.drewN n) w.heap.size A (zs.map (.int .u8)) := hr1.below (below_drewN (Below.refl _ _) n) hb1.size
  go_wp2_with fail
  refine (of_any A cap _ zs _ hr2 hb1.size Hz.out (by omega)).mono ?_
  rintro e w3 ⟨rfl, hb3⟩
  have hb4 : Below w.heap.size w w3 := (below_drewN hb1 n).trans (hb3.mono hb1.size)
  have hr3 := hr.below hb4 (Nat.le_refl _)
  go_wp2_with fail
  refine (refSum_any A cap _ zs _ hr3 Hz.out (by omega)).mono ?_
  rintro e w4 ⟨rfl, n', rfl⟩
  go_wp2_with fail
  go_ret
  exact ⟨rfl, below_drewN hb4 _⟩

end Go.Proofs.Ytadldlijmnohhaa
