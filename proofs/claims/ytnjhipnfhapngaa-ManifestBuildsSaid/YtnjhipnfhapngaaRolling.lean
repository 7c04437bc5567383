/-
  rolling.New, Reset, Len, Sum, Copy.
-/
import Derived.Test.YtnjhipnfhapngaaPush
namespace Go.Proofs.Ytnjhipnfhapngaa
set_option linter.unusedVariables false
set_option linter.unusedSimpArgs false
set_option linter.unnecessarySimpa false
open Go.RowKit
attribute [local go_sem ↓] Go.wp_at_zero Go.wp_at_succ

theorem zeros_byte : ∀ z ∈ List.replicate 64 (0 : Int), 0 ≤ z ∧ z ≤ 255 := by
  intro z hz
  have := List.eq_of_mem_replicate hz
  omega

theorem rolA_size {ring : List Int} {n : Nat} {c nx s p : Int} (h : ring.length = 64) : (rolA ring n c nx s p).size = 69 := by simp [rolA, h]
theorem rolA_setSize {ring : List Int} {n : Nat} {c nx s p : Int} (h : ring.length = 64) (n' : Nat) : (rolA ring n c nx s p).setIfInBounds 64 (.int .i64 n') = rolA ring n' c nx s p := rolA_setRest h 0 _
theorem rolA_setPow {ring : List Int} {n : Nat} {c nx s p : Int} (h : ring.length = 64) (p' : Int) : (rolA ring n c nx s p).setIfInBounds 68 (.int .u64 p') = rolA ring n c nx s p' := rolA_setRest h 4 _
theorem rol_zero (w : World) : (zeroValue 140).run Try.prog w = .ok (.agg (rolA (List.replicate 64 0) 0 0 0 0 0)) w := by kernel_rfl
theorem rolA_ones {ring : List Int} {n : Nat} {c nx s p : Int} : (rolA ring n c nx s p).all (·.oneCell') = true := by
  unfold rolA
  rw [Array.all_eq_true_iff_forall_mem]
  intro v hv
  simp at hv
  rcases hv with ⟨z, _, rfl⟩ | rfl | rfl | rfl | rfl | rfl <;> rfl

set_option maxHeartbeats 1000000 in
theorem rNew_ok (n : Nat) (w : World) (h1 : 1 ≤ n) (h2 : n ≤ 64) :
    Calls Try.prog 88 #[.int .i64 n] w fun e w' => ∃ g, e = .returned (.tuple #[.pointer (some ⟨g, 0, none⟩), .int .i64 0]) ∧ Rol w' g n [] ∧ w.heap.size ≤ g ∧ Below w.heap.size w w' := by
  have hz := rol_zero
  have hr : (List.replicate 64 (0 : Int)).length = 64 := by simp
  have HR := Lib.hid hr
  have HZ := Lib.hid zeros_byte
  have hs := rolA_size (n := 0) (c := 0) (nx := 0) (s := 0) (p := 0) hr
  have hs1 := rolA_setSize (n := 0) (c := 0) (nx := 0) (s := 0) (p := 0) hr n
  have hs2 := rolA_setPow (n := n) (c := 0) (nx := 0) (s := 0) (p := 0) hr (powZ (n - 1))
  clear hr
  generalize List.replicate 64 (0 : Int) = R at *
  go_enter Try.func88, Try.ntmps88
  go_wp2_with fail
  refine (power_any _ _).mono ?_
  rintro e wn ⟨rfl, rfl⟩
  rw [powI_in (by omega) (by omega), show ((n : Int) - 1).toNat = n - 1 by omega]
  go_wp2_with fail
  go_ret2
  refine ⟨w.heap.size, rfl, ⟨R, 0, Blk.new w _ _, RingOk.empty HR.out h1 h2 HZ.out⟩, Nat.le_refl _, by (repeat (first | exact Below.refl _ _ | assumption | refine Below.drew ?_ | refine below_drewN ?_ _ | refine Below.alloc ?_ (by first | omega | (simp; done) | (simp; omega) | (simp [World.setCell]; omega)) _ | refine Below.setCell ?_ (by first | omega | (simp; done) | (simp; omega) | (simp [World.setCell]; omega)) _))⟩

set_option maxHeartbeats 1000000 in
theorem rNew_no (n : Int) (w : World) (h : ¬ (1 ≤ n ∧ n ≤ 64)) :
    Calls Try.prog 88 #[.int .i64 n] w fun e w' => e = .returned (.tuple #[.pointer none, .int .i64 230]) ∧ w = w' := by
  by_cases h1 : n < 1
  · go_enter Try.func88, Try.ntmps88
    go_wp2_with fail
    go_ret2
    exact ⟨rfl, rfl⟩
  · have h2 : 64 < n := by omega
    have h1' : 1 ≤ n := by omega
    clear h h1
    go_enter Try.func88, Try.ntmps88
    go_wp2_with fail
    go_ret2
    exact ⟨rfl, rfl⟩

end Go.Proofs.Ytnjhipnfhapngaa
