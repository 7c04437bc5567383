/-
  fingerprint.add, multiply, subtract and the reference's Plus, Mul, Minus: what each returns for numbers below Prime.
-/
import Derived.Test.YtnjhipnfhapngaaBits
import Derived.Test.YtnjhipnfhapngaaArith
import Derived.Lib.Hide
import Derived.Outline
namespace Go.Proofs.Ytnjhipnfhapngaa
set_option linter.unusedVariables false
set_option linter.unusedSimpArgs false
set_option linter.unnecessarySimpa false
open Go.RowKit Go.Lib

theorem ret_u64 {a b : Int} (h : a = b) : Ending.returned (.int .u64 a) = .returned (.int .u64 b) := by rw [h]

set_option maxHeartbeats 400000 in
theorem add_any (a b : Int) (ha0 : 0 ≤ a) (ha : a < 2305843009213693951) (hb0 : 0 ≤ b) (hb : b < 2305843009213693951) (w : World) :
    Calls Try.prog 68 #[.int .u64 a, .int .u64 b] w fun e w' => e = .returned (.int .u64 (fadd a b)) ∧ w = w' := by
  go_enter Try.func68, Try.ntmps68
  go_wp2
  · have h : 2305843009213693951 ≤ a + b := by assumption
    go_ret
    exact ⟨ret_u64 (fadd_high (by omega) h), rfl⟩
  · have h : a + b < 2305843009213693951 := by assumption
    go_ret
    exact ⟨ret_u64 (fadd_low (by omega) h), rfl⟩

set_option maxHeartbeats 400000 in
/-- the reference's Plus: numbers of at most Prime -/
theorem plus_any (a b : Int) (ha0 : 0 ≤ a) (ha : a ≤ 2305843009213693951) (hb0 : 0 ≤ b) (hb : b ≤ 2305843009213693951) (w : World) :
    Calls Try.prog 90 #[.int .u64 a, .int .u64 b] w fun e w' => e = .returned (.int .u64 (fadd a b)) ∧ w = w' := by
  go_enter Try.func90, Try.ntmps90
  go_wp2
  all_goals go_ret
  all_goals refine ⟨ret_u64 ?_, rfl⟩
  all_goals (unfold fadd; omega)

/-- Mul64 over Int -/
theorem mul64_int (x y : Int) (hx0 : 0 ≤ x) (hx : x < 18446744073709551616) (hy0 : 0 ≤ y) (hy : y < 18446744073709551616) (w : World) :
    Calls Try.prog 82 #[.int .u64 x, .int .u64 y] w fun e w' => e = .returned (.tuple #[.int .u64 (x * y / 18446744073709551616), .int .u64 (x * y % 18446744073709551616)]) ∧ w = w' := by
  obtain ⟨a, rfl⟩ := Int.eq_ofNat_of_zero_le hx0
  obtain ⟨b, rfl⟩ := Int.eq_ofNat_of_zero_le hy0
  exact mul64_any a b (by omega) (by omega) w

set_option maxHeartbeats 400000 in
theorem multiply_any (a b : Int) (ha0 : 0 ≤ a) (ha : a < 2305843009213693951) (hb0 : 0 ≤ b) (hb : b < 2305843009213693951) (w : World) :
    Calls Try.prog 69 #[.int .u64 a, .int .u64 b] w fun e w' => e = .returned (.int .u64 (fmul a b)) ∧ w = w' := by
  have HB := Lib.hid (words_hi a b ⟨ha0, ha⟩ ⟨hb0, hb⟩)
  have HW := Lib.hid (words_eq (a * b))
  go_enter Try.func69, Try.ntmps69
  go_wp2_with fail
  refine (mul64_int _ _ (by omega) (by omega) (by omega) (by omega) _).mono ?_
  rintro e w' ⟨rfl, rfl⟩
  obtain ⟨B0, B1⟩ := HB.out
  have L0 : 0 ≤ a * b % 18446744073709551616 := by omega
  have L1 : a * b % 18446744073709551616 < 18446744073709551616 := by omega
  have HW' := HW.out
  clear HB HW
  generalize a * b / 18446744073709551616 = hi at *
  generalize a * b % 18446744073709551616 = lo at *
  have HW := Lib.hid (fmul_words a b hi lo HW')
  clear HW'
  have HL := Lib.hid (low61 lo L0 L1)
  have HH := Lib.hid (high61 hi lo B0 B1 L0 L1)
  go_wp2_with fail
  rw [HL.out, HH.out, Int.tmod_eq_emod_of_nonneg (by omega), Int.tmod_eq_emod_of_nonneg (by omega)]
  refine (add_any _ _ (by omega) (by omega) (by omega) (by omega) _).mono ?_
  rintro e w' ⟨rfl, rfl⟩
  go_wp2
  go_ret
  exact ⟨ret_u64 HW.out, rfl⟩

set_option maxHeartbeats 400000 in
theorem mul_any (a b : Int) (ha0 : 0 ≤ a) (ha : a < 2305843009213693951) (hb0 : 0 ≤ b) (hb : b < 2305843009213693951) (w : World) :
    Calls Try.prog 91 #[.int .u64 a, .int .u64 b] w fun e w' => e = .returned (.int .u64 (fmul a b)) ∧ w = w' := by
  have HB := Lib.hid (words_hi a b ⟨ha0, ha⟩ ⟨hb0, hb⟩)
  have HW := Lib.hid (words_eq (a * b))
  go_enter Try.func91, Try.ntmps91
  go_wp2_with fail
  refine (mul64_int _ _ (by omega) (by omega) (by omega) (by omega) _).mono ?_
  rintro e w' ⟨rfl, rfl⟩
  obtain ⟨B0, B1⟩ := HB.out
  have L0 : 0 ≤ a * b % 18446744073709551616 := by omega
  have L1 : a * b % 18446744073709551616 < 18446744073709551616 := by omega
  have HW' := HW.out
  clear HB HW
  generalize a * b / 18446744073709551616 = hi at *
  generalize a * b % 18446744073709551616 = lo at *
  have HW := Lib.hid (fmul_words' a b hi lo HW')
  clear HW'
  have HL := Lib.hid (low61 lo L0 L1)
  have HH := Lib.hid (high61 hi lo B0 B1 L0 L1)
  go_wp2_with fail
  rw [HL.out, HH.out]
  refine (plus_any _ _ (by omega) (by omega) (by omega) (by omega) _).mono ?_
  rintro e w' ⟨rfl, rfl⟩
  go_wp2
  go_ret
  exact ⟨ret_u64 HW.out, rfl⟩



end Go.Proofs.Ytnjhipnfhapngaa
