/-
  stockyardlaw22.FingerprintParts returns true.
-/
import Derived.Test.YtadldlijmnohhaaPartLaws
import Derived.Test.YtadldlijmnohhaaKnown22
namespace Go.Proofs.Ytadldlijmnohhaa
set_option linter.unusedVariables false
set_option linter.unusedSimpArgs false
set_option linter.unnecessarySimpa false
open Go.RowKit
attribute [local go_sem ↓] Go.wp_at_zero Go.wp_at_succ

theorem prefU_u64 (zs : List Int) (k : Nat) : ∀ z ∈ prefU zs k, 0 ≤ z ∧ z < 18446744073709551616 := by
  intro z hz
  obtain ⟨j, _, rfl⟩ := List.mem_map.1 hz
  have := sumZ_fp (zs.take j)
  unfold Fp at this
  omega

set_option maxHeartbeats 1000000 in
theorem lawParts_any (A : Option Addr) (cap : Nat) (zs : List Int) (f t : Int) (w : World) (hr : Row w w.heap.size A (zs.map (.int .u8))) (hz : ∀ z ∈ zs, 0 ≤ z ∧ z ≤ 255) (hcap : zs.length ≤ cap) (hm : cap ≤ 9223372036854775807)
    (f0 : -9223372036854775808 ≤ f) (f1 : f ≤ 9223372036854775807) (t0 : -9223372036854775808 ≤ t) (t1 : t ≤ 9223372036854775807) :
    Calls Try.prog 12 #[.slice A zs.length cap, .int .i64 f, .int .i64 t] w fun e w' => e = .returned (.bool true) ∧ Below w.heap.size w w' := by
  have Hz := Lib.hid hz
  clear hz
  by_cases hl : zs.length ≤ 1048576
  · have g1 : ¬ (1048576 < (zs.length : Int)) := by omega
    go_enter Try.func12, Try.ntmps12
    go_wp2_with fail
    refine (fold_any _ _ t0 t1 (by omega) _).mono ?_
    rintro e wn ⟨rfl, rfl⟩
    have et := foldI_lo t (zs.length + 1)
    have et1 := foldI_hi t (zs.length + 1) (by omega)
    obtain ⟨tn, ht⟩ := Int.eq_ofNat_of_zero_le et
    rw [ht] at et1 ⊢
    clear et ht
    go_wp2_with fail
    refine (fold_any _ _ f0 f1 (by omega) _).mono ?_
    rintro e wn ⟨rfl, rfl⟩
    have ef := foldI_lo f ((tn : Int) + 1)
    have ef1 := foldI_hi f ((tn : Int) + 1) (by omega)
    obtain ⟨fn, hf⟩ := Int.eq_ofNat_of_zero_le ef
    rw [hf] at ef1 ⊢
    clear ef hf
    go_wp2_with fail
    refine (prefixes_any A cap _ zs _ hr (Nat.le_refl _) Hz.out hl).mono ?_
    rintro e w1 ⟨A1, cap1, rfl, hown, hb1⟩
    have hpl : (prefU zs zs.length).length ≤ 9223372036854775807 := by rw [prefU_length]; omega
    have HP := Lib.hid hpl
    clear hpl
    go_wp2_with fail
    refine (window_any A1 cap1 _ (prefU zs zs.length) fn tn w1 (own_row hown) (prefU_u64 _ _) HP.out (by omega) (by omega) (by omega) (by omega)).mono ?_
    rintro e w2 ⟨rfl, hd⟩
    have HW := Lib.hid (win_part zs fn tn (by omega) (by omega) hl)
    rw [HW.out]
    unfold winV
    have hb2 : Below w.heap.size w w2 := by obtain ⟨n, rfl⟩ := hd; exact below_drewN hb1 n
    clear hown hd
    go_wp2_with fail
    refine (known22_any _).mono ?_
    rintro e w3 ⟨rfl, hb3⟩
    have hb4 : Below w.heap.size w w3 := hb2.trans (hb3.mono hb2.size)
    have hr3 := (hr.below hb4 (Nat.le_refl _)).cut' (lo := fn) (m := tn - fn) (cap := cap) (by omega)
    have hlen : ((zs.drop fn).take (tn - fn)).length = tn - fn := by rw [List.length_take, List.length_drop]; omega
    rw [← List.map_drop, ← List.map_take] at hr3
    have HS := Lib.hid (fun c => sum_any _ c _ ((zs.drop fn).take (tn - fn)) w3 hr3 (fun z hz => Hz.out z (List.mem_of_mem_drop (List.mem_of_mem_take hz))) (by omega))
    rw [hlen] at HS
    clear hlen hr3 hb2 hb3
    have c1 : (fn : Int) ≤ tn := by omega
    have c2 : (tn : Int) ≤ cap := by omega
    go_wp2_with fail
    all_goals
      have HC := HS.out
      first
        | rw [if_neg (by assumption)] at HC
        | rw [if_pos (by assumption)] at HC
      refine (HC _).mono ?_
      clear HC HS
      rintro e wn ⟨rfl, rfl⟩
      go_wp2_with fail
      go_ret
      exact ⟨by simp, hb4⟩
  · have g1 : 1048576 < (zs.length : Int) := by omega
    go_enter Try.func12, Try.ntmps12
    go_wp2_with fail
    go_ret
    exact ⟨rfl, Below.refl _ _⟩

end Go.Proofs.Ytadldlijmnohhaa
