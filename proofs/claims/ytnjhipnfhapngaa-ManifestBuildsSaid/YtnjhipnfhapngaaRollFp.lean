/-
  rolling.add, rolling.multiply: arithmetic modulo Prime once more.
-/
import Derived.Test.YtnjhipnfhapngaaFp
namespace Go.Proofs.Ytnjhipnfhapngaa
set_option linter.unusedVariables false
set_option linter.unusedSimpArgs false
set_option linter.unnecessarySimpa false
open Go.RowKit Go.Lib

set_option maxHeartbeats 400000 in
theorem rAdd_any (a b : Int) (ha0 : 0 ≤ a) (ha : a < 2305843009213693951) (hb0 : 0 ≤ b) (hb : b < 2305843009213693951) (w : World) :
    Calls Try.prog 95 #[.int .u64 a, .int .u64 b] w fun e w' => e = .returned (.int .u64 (fadd a b)) ∧ w = w' := by
  go_enter Try.func95, Try.ntmps95
  go_wp2
  · have h : 2305843009213693951 ≤ a + b := by assumption
    go_ret
    exact ⟨ret_u64 (fadd_high (by omega) h), rfl⟩
  · have h : a + b < 2305843009213693951 := by assumption
    go_ret
    exact ⟨ret_u64 (fadd_low (by omega) h), rfl⟩

set_option maxHeartbeats 400000 in
theorem rMultiply_any (a b : Int) (ha0 : 0 ≤ a) (ha : a < 2305843009213693951) (hb0 : 0 ≤ b) (hb : b < 2305843009213693951) (w : World) :
    Calls Try.prog 94 #[.int .u64 a, .int .u64 b] w fun e w' => e = .returned (.int .u64 (fmul a b)) ∧ w = w' := by
  have HB := Lib.hid (words_hi a b ⟨ha0, ha⟩ ⟨hb0, hb⟩)
  have HW := Lib.hid (words_eq (a * b))
  go_enter Try.func94, Try.ntmps94
  go_wp2_with fail
  refine (mul64_int _ _ (by omega) (by omega) (by omega) (by omega) _).mono ?_
  rintro e w' ⟨rfl, rfl⟩
  obtain ⟨B0, B1⟩ := HB.out
  have L0 : 0 ≤ a * b % 18446744073709551616 := by omega
  have L1 : a * b % 18446744073709551616 < 18446744073709551616 := by omega
  have HW' := HW.out
  clear HB HW
  generalize a * b / 18446744073709551616 = hi at *
  generalize a * b % 18446744073709551616 = lo at *
  have HW := Lib.hid (fmul_words a b hi lo HW')
  clear HW'
  have HL := Lib.hid (low61 lo L0 L1)
  have HH := Lib.hid (high61 hi lo B0 B1 L0 L1)
  go_wp2_with fail
  rw [HL.out, HH.out, Int.tmod_eq_emod_of_nonneg (by omega), Int.tmod_eq_emod_of_nonneg (by omega)]
  refine (rAdd_any _ _ (by omega) (by omega) (by omega) (by omega) _).mono ?_
  rintro e w' ⟨rfl, rfl⟩
  go_wp2
  go_ret
  exact ⟨ret_u64 HW.out, rfl⟩

end Go.Proofs.Ytnjhipnfhapngaa
