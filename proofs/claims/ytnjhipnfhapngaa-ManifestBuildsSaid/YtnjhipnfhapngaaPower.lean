/-
  fingerprint.Power and the reference's Power.
-/
import Derived.Test.YtnjhipnfhapngaaPow
import Derived.Test.YtnjhipnfhapngaaHeld
import Derived.Test.YtnjhipnfhapngaaLen
import Derived.Laws.BitsAllLaws
namespace Go.Proofs.Ytnjhipnfhapngaa
set_option linter.unusedVariables false
set_option linter.unusedSimpArgs false
set_option linter.unnecessarySimpa false
open Go.RowKit

theorem odd_bit (m : Nat) (h : m < 9223372036854775808) : bits .and .i64 (m : Int) 1 = ((m % 2 : Nat) : Int) := by
  have h1 := (bits_nat .i64 63 (by decide) (fun n h0 h1 => by rw [IntKind.wrap_i64]; omega) m 1 (by omega) (by omega)).1
  rw [Nat.and_one_is_mod] at h1
  exact h1

set_option maxHeartbeats 400000 in
theorem power_in (n : Nat) (w : World) (h1 : n ≤ 1048576) :
    Calls Try.prog 70 #[.int .i64 n] w fun e w' => e = .returned (.int .u64 (powZ n)) ∧ w = w' := by
  have Hl := Lib.hid (lt_bitLen n (by omega))
  have hl := bitLen_le n
  go_enter Try.func70, Try.ntmps70
  go_wp2_with fail
  refine (len_any _ _ (by omega) (by omega)).mono ?_
  rintro e w' ⟨rfl, rfl⟩
  simp only [Int.toNat_natCast]
  generalize Lib.bitLen n = L at *
  go_wp2_with fail
  go_loop [3, 4, 15] (fun o b t => ∃ i : Nat, i ≤ L ∧ t = .int .i64 i ∧ o = .int .u64 (powZ (n % 2 ^ i)) ∧ b = .int .u64 (powZ (2 ^ i))) (fun _ _ t => L - (intOf t).toNat)
  case atStart => exact ⟨0, by omega, by simp, by simp [Nat.mod_one, powZ], by simp [powZ_one]⟩
  case round =>
    obtain ⟨i, hi, rfl, rfl, rfl⟩ := hrel
    have f1 := powZ_fp (2 ^ i)
    have f2 := powZ_fp (n % 2 ^ i)
    have hb := odd_bit (n / 2 ^ i) (by have := Nat.div_le_self n (2 ^ i); omega)
    have hq : ((n / 2 ^ i : Nat) : Int) = (n : Int) / 2 ^ i := by simp
    rw [hq] at hb
    clear hq
    by_cases hlt : i < L
    · rcases Nat.mod_two_eq_zero_or_one (n / 2 ^ i) with hm | hm
      · rw [hm] at hb
        have HM := Lib.hid (powZ_miss n i hm)
        clear hm
        go_wp2_with fail
        refine (multiply_any _ _ f1.1 f1.2 f1.1 f1.2 _).mono ?_
        rintro e w' ⟨rfl, rfl⟩
        rw [powZ_sq]
        go_wp2
        go_round
        case rel => exact ⟨i + 1, by omega, by go_num, by rw [HM.out], rfl⟩
        case measure => simp [intOf]; omega
      · rw [hm] at hb
        have HM := Lib.hid (powZ_hit n i hm)
        clear hm
        go_wp2_with fail
        refine (multiply_any _ _ f2.1 f2.2 f1.1 f1.2 _).mono ?_
        rintro e w' ⟨rfl, rfl⟩
        rw [HM.out]
        go_wp2_with fail
        refine (multiply_any _ _ f1.1 f1.2 f1.1 f1.2 _).mono ?_
        rintro e w' ⟨rfl, rfl⟩
        rw [powZ_sq]
        go_wp2
        go_round
        case rel => exact ⟨i + 1, by omega, by go_num, rfl, rfl⟩
        case measure => simp [intOf]; omega
    · obtain rfl : i = L := by omega
      have e : n % 2 ^ i = n := Nat.mod_eq_of_lt Hl.out
      have HE := Lib.hid e
      clear e
      go_wp2_with fail
      go_ret
      exact ⟨ret_u64 (by rw [HE.out]), rfl⟩

/-- the power, 0 outside the range -/
def powI (n : Int) : Int := if 0 ≤ n ∧ n ≤ 1048576 then powZ n.toNat else 0
theorem powI_in {n : Int} (h0 : 0 ≤ n) (h1 : n ≤ 1048576) : powI n = powZ n.toNat := by unfold powI; rw [if_pos ⟨h0, h1⟩]
theorem powI_fp (n : Int) : Fp (powI n) := by
  unfold powI; split
  · exact powZ_fp _
  · unfold Fp; omega

set_option maxHeartbeats 400000 in
theorem power_any (n : Int) (w : World) :
    Calls Try.prog 70 #[.int .i64 n] w fun e w' => e = .returned (.int .u64 (powI n)) ∧ w = w' := by
  by_cases h : 0 ≤ n ∧ n ≤ 1048576
  · rw [powI_in h.1 h.2]
    obtain ⟨k, rfl⟩ := Int.eq_ofNat_of_zero_le h.1
    exact power_in k w (by omega)
  · have HE := Lib.hid (show 0 = powI n by unfold powI; rw [if_neg h])
    by_cases h0 : n < 0
    · go_enter Try.func70, Try.ntmps70
      go_wp2
      go_ret
      exact ⟨ret_u64 HE.out, rfl⟩
    · have h1 : 1048576 < n := by omega
      clear h
      have h0' : 0 ≤ n := by omega
      clear h0
      go_enter Try.func70, Try.ntmps70
      go_wp2
      go_ret
      exact ⟨ret_u64 HE.out, rfl⟩

end Go.Proofs.Ytnjhipnfhapngaa
