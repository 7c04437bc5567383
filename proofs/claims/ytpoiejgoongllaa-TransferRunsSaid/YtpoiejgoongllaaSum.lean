/-
  fingerprint.Sum and the reference's Sum: the polynomial of the bytes.
-/
import Derived.Test.YtpoiejgoongllaaRegC
import Derived.Test.YtpoiejgoongllaaCutMath
namespace Go.Proofs.Ytpoiejgoongllaa
set_option linter.unusedVariables false
set_option linter.unusedSimpArgs false
set_option linter.unnecessarySimpa false
open Go.RowKit Go.Lib

/-- what the round needs of an element -/
theorem elem_bd {zs : List Int} (hz : ∀ z ∈ zs, 0 ≤ z ∧ z ≤ 255) {k : Nat} (hk : k < zs.length) : 0 ≤ zs[k] ∧ zs[k] ≤ 255 := hz _ (List.getElem_mem hk)

set_option maxHeartbeats 400000 in
theorem sum_any (A : Option Addr) (cap B : Nat) (zs : List Int) (w : World) (hr : Row w B A (zs.map (.int .u8))) (hz : ∀ z ∈ zs, 0 ≤ z ∧ z ≤ 255) (hm : zs.length ≤ 9223372036854775807) :
    Calls Try.prog 61 #[.slice A zs.length cap] w fun e w' => e = .returned (.int .u64 (sumZ zs)) ∧ w = w' := by
  have Hz := Lib.hid hz
  clear hz
  go_enter Try.func61, Try.ntmps61
  go_wp2_with fail
  go_loop [3, 8] (fun s i => ∃ k : Nat, k ≤ zs.length ∧ i = .int .i64 k ∧ s = .int .u64 (sumZ (zs.take k))) (fun _ i => zs.length - (intOf i).toNat)
  case atStart => exact ⟨0, Nat.zero_le _, rfl, rfl⟩
  case round =>
    obtain ⟨k, hk, rfl, rfl⟩ := hrel
    by_cases hlt : k < zs.length
    · obtain ⟨ad, rfl, hb, hc⟩ := hr.at_ (k := k) (by simpa using hlt)
      rw [List.getElem_map] at hc
      have hbd := elem_bd Hz.out hlt
      have HS := Lib.hid (sumZ_take zs k hlt)
      have hf := sumZ_fp (zs.take k)
      have hf0 := hf.1
      have hf1 := hf.2
      clear hf
      have m0 := fmul_lo (sumZ (zs.take k)) 747382712868975713
      have m1 := fmul_hi (sumZ (zs.take k)) 747382712868975713
      go_wp2_with fail
      refine (multiply_any _ _ hf0 hf1 (by omega) (by omega) _).mono ?_
      rintro e w' ⟨rfl, rfl⟩
      go_wp2_with fail
      refine (add_any _ _ m0 m1 (by omega) (by omega) _).mono ?_
      rintro e w' ⟨rfl, rfl⟩
      go_wp2
      go_round
      case rel => exact ⟨k + 1, by omega, by go_num, by rw [HS.out]; rfl⟩
      case measure => simp [intOf]; omega
    · go_wp2_with fail
      go_ret
      exact ⟨ret_u64 (by rw [List.take_of_length_le (by omega)]), rfl⟩

set_option maxHeartbeats 400000 in
theorem refSum_any (A : Option Addr) (cap B : Nat) (zs : List Int) (w : World) (hr : Row w B A (zs.map (.int .u8))) (hz : ∀ z ∈ zs, 0 ≤ z ∧ z ≤ 255) (hm : zs.length ≤ 9223372036854775807) :
    Calls Try.prog 74 #[.slice A zs.length cap] w fun e w' => e = .returned (.int .u64 (sumZ zs)) ∧ Drawn w w' := by
  have Hz := Lib.hid hz
  clear hz
  go_enter Try.func74, Try.ntmps74
  go_wp2_with fail
  go_loopw [3, 4] (fun s i wr => (∃ k : Nat, k ≤ zs.length ∧ i = .int .i64 k ∧ s = .int .u64 (sumZ (zs.take k))) ∧ Drawn w wr) (fun _ i _ => zs.length - (intOf i).toNat)
  case atStart => exact ⟨⟨0, Nat.zero_le _, rfl, rfl⟩, Drawn.refl _⟩
  case round =>
    obtain ⟨⟨k, hk, rfl, rfl⟩, hd⟩ := hrel
    by_cases hlt : k < zs.length
    · obtain ⟨ad, rfl, hb, hc⟩ := (hr.keep (w' := wr) fun p _ => hd.cell p).at_ (k := k) (by simpa using hlt)
      rw [List.getElem_map] at hc
      have hbd := elem_bd Hz.out hlt
      have HS := Lib.hid (sumZ_take zs k hlt)
      have hf := sumZ_fp (zs.take k)
      have hf0 := hf.1
      have hf1 := hf.2
      clear hf
      have m0 := fmul_lo (sumZ (zs.take k)) 747382712868975713
      have m1 := fmul_hi (sumZ (zs.take k)) 747382712868975713
      go_wp2_with fail
      go_quiet ((first | (go_at_call 84; exact quiet_same (mul_any _ _ hf0 hf1 (by omega) (by omega) _)) | (go_at_call 83; exact quiet_same (plus_any _ _ m0 (by omega) (by omega) (by omega) _))))
      go_wp2
      go_roundw
      case rel => exact ⟨⟨k + 1, by omega, by go_num, by rw [HS.out]; rfl⟩, hd.drewN _⟩
      case measure => simp [intOf]; omega
    · go_wp2_with fail
      go_ret
      exact ⟨ret_u64 (by rw [List.take_of_length_le (by omega)]), hd⟩

end Go.Proofs.Ytpoiejgoongllaa
