/-
  fingerprint.Of: the ID of a byte string.
-/
import Derived.Test.YtnjhipnfhapngaaSum
import Derived.Test.YtnjhipnfhapngaaHeldK
namespace Go.Proofs.Ytnjhipnfhapngaa
set_option linter.unusedVariables false
set_option linter.unusedSimpArgs false
set_option linter.unnecessarySimpa false
open Go.RowKit
attribute [local go_sem ↓] Go.wp_at_zero Go.wp_at_succ

set_option maxHeartbeats 400000 in
theorem of_any (A : Option Addr) (cap B : Nat) (zs : List Int) (w : World) (hr : Row w B A (zs.map (.int .u8))) (hB : B ≤ w.heap.size) (hz : ∀ z ∈ zs, 0 ≤ z ∧ z ≤ 255) (hm : zs.length ≤ 9223372036854775807) :
    Calls Try.prog 42 #[.slice A zs.length cap] w fun e w' => e = .returned (.agg #[.int .u64 (sumZ zs), .int .i64 zs.length]) ∧ Below w.heap.size w w' := by
  have HC := Lib.hid (sum_any A cap B zs (w.alloc (.cells #[.int .u64 0, .int .i64 0] 51)) (hr.below ((Below.refl _ _).alloc (Nat.le_refl _) _) hB) hz hm)
  clear hz
  go_enter Try.func42, Try.ntmps42
  go_wp2_with fail
  refine HC.out.mono ?_
  rintro e w' ⟨rfl, rfl⟩
  go_wp2_with fail
  refine bodyPost_ret (v := .agg #[.int .u64 (sumZ zs), .int .i64 zs.length]) ?_ rfl ⟨rfl, ?_⟩
  · simp [results, Try.results42, go_sem]
  · (repeat (first | exact Below.refl _ _ | assumption | refine Below.drew ?_ | refine below_drewN ?_ _ | refine Below.alloc ?_ (by first | omega | (simp; done) | (simp; omega) | (simp [World.setCell]; omega)) _ | refine Below.setCell ?_ (by first | omega | (simp; done) | (simp; omega) | (simp [World.setCell]; omega)) _))

end Go.Proofs.Ytnjhipnfhapngaa
