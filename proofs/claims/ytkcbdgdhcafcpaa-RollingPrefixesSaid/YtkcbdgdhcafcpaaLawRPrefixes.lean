/-
  stockyardlaw23.RollingPrefixes returns true.
-/
import Derived.Test.YtkcbdgdhcafcpaaRolled
import Derived.Test.YtkcbdgdhcafcpaaPartLaws
namespace Go.Proofs.Ytkcbdgdhcafcpaa
set_option linter.unusedVariables false
set_option linter.unusedSimpArgs false
set_option linter.unnecessarySimpa false
open Go.RowKit
attribute [local go_sem ↓] Go.wp_at_zero Go.wp_at_succ

theorem prefU_u64' (zs : List Int) (k : Nat) : ∀ z ∈ prefU zs k, 0 ≤ z ∧ z < 18446744073709551616 := by
  intro z hz
  obtain ⟨j, _, rfl⟩ := List.mem_map.1 hz
  have := sumZ_fp (zs.take j)
  unfold Fp at this
  omega
theorem win_last (zs : List Int) (n k : Nat) (h : k < zs.length) (hm : zs.length ≤ 1048576) : winR (prefU zs zs.length) ((k + 1 - n : Nat) : Int) ((k + 1 : Nat) : Int) = (sumZ (lastN n (zs.take (k + 1))), true) := by
  rw [win_part zs (k + 1 - n) (k + 1) (by omega) (by omega) hm]
  unfold lastN
  rw [List.length_take, Nat.min_eq_left (by omega), List.drop_take]

set_option maxHeartbeats 1000000 in
theorem lawRPrefixes_any (v : Int) (A : Option Addr) (cap : Nat) (zs : List Int) (w : World) (v0 : -9223372036854775808 ≤ v) (v1 : v ≤ 9223372036854775807) (hr : Row w w.heap.size A (zs.map (.int .u8))) (hz : ∀ z ∈ zs, 0 ≤ z ∧ z ≤ 255) (hm : zs.length ≤ 140737488355328) :
    Calls Try.prog 10 #[.int .i64 v, .slice A zs.length cap] w fun e w' => e = .returned (.bool true) ∧ Below w.heap.size w w' := by
  have Hz := Lib.hid hz
  clear hz
  go_enter Try.func10, Try.ntmps10
  go_wp2_with fail
  refine (size23_any v v0 v1 _).mono ?_
  rintro e w0 ⟨n, rfl, n0, n1, hn, rfl⟩
  clear hn
  by_cases hl : zs.length ≤ 1048576
  · have g1 : ¬ (1048576 < (zs.length : Int)) := by omega
    go_wp2_with fail
    refine (rSums_ok n A cap _ zs _ n0 n1 hr (Nat.le_refl _) Hz.out hl).mono ?_
    rintro e w1 ⟨g, rfl, hown, hb1⟩
    go_wp2_with fail
    refine (prefixes_any A cap _ zs _ (hr.below hb1 (Nat.le_refl _)) hb1.size Hz.out hl).mono ?_
    rintro e w2 ⟨A2, cap2, rfl, hown2, hb⟩
    replace hown := own_below hown hb
    replace hb1 : Grew w w2 := Grew.trans hb1 hb
    clear hb
    have hpl : ((prefU zs zs.length).length : Int) = (zs.length : Int) + 1 := by rw [prefU_length]; omega
    have hpn : (prefU zs zs.length).length = zs.length + 1 := prefU_length _ _
    have HW := Lib.hid (fun k (h : k < zs.length) => win_last zs n k h hl)
    have HP := Lib.hid (prefU_u64' zs zs.length)
    have HS := Lib.hid (fun k (h : k < zs.length) => winSums_at n zs k h)
    have HL := Lib.hid (winSums_length n zs)
    generalize prefU zs zs.length = ps at *
    have Hpn := Lib.hid hpn
    clear hpn
    go_wp2_with fail
    refine (known23_any _).mono ?_
    rintro e w3 ⟨rfl, hb⟩
    replace hown := own_below hown hb
    replace hown2 := own_below hown2 hb
    replace hb1 : Grew w w3 := Grew.trans hb1 hb
    clear hb
    go_wp2_with fail
    go_loopw [9] (fun i wr => (∃ k : Nat, k ≤ zs.length ∧ i = .int .i64 k) ∧ Drawn w3 wr) (fun i _ => zs.length - (intOf i).toNat)
    case atStart => exact ⟨⟨0, Nat.zero_le _, rfl⟩, Drawn.refl _⟩
    case round =>
      obtain ⟨⟨k, hk, rfl⟩, hd⟩ := hrel
      by_cases hlt : k < zs.length
      · have hown2' := own_below hown2 (hd.below _)
        have hc := (own_below hown (hd.below _)).cellAt k (by omega)
        rw [List.getElem?_eq_getElem (by rw [List.length_map, HL.out]; omega), List.getElem_map, HS.out k hlt] at hc
        have hw := HW.out k hlt
        have hmax : max (0 : Int) ((k : Int) + 1 - n) = ((k + 1 - n : Nat) : Int) := by omega
        rw [show ((k + 1 : Nat) : Int) = (k : Int) + 1 by omega] at hw
        have HWk := Lib.hid hw
        have hc0 : ((k + 1 - n : Nat) : Int) ≤ 1048576 := by omega
        clear hw
        go_wp2_with fail
        clear hmax
        refine (window_any A2 cap2 _ ps ((k + 1 - n : Nat) : Int) ((k : Int) + 1) wr (own_row hown2') HP.out (by rw [Hpn.out]; omega) (by omega) (by omega) (by omega) (by omega)).mono ?_
        rintro e w4 ⟨rfl, hd4⟩
        rw [HWk.out]
        unfold winV
        have hc4 : w4.cell? _ = _ := (hd4.cell _).trans hc
        have hk2 : (k : Int) < zs.length := by omega
        clear hown2' hc
        go_wp2_with fail
        go_roundw
        case rel => exact ⟨⟨k + 1, by omega, by go_num⟩, hd.trans hd4⟩
        case measure => simp [intOf]; omega
      · go_wp2_with fail
        go_ret
        exact ⟨rfl, Grew.trans hb1 (hd.below _)⟩
  · have g1 : 1048576 < (zs.length : Int) := by omega
    go_wp2_with fail
    go_ret
    exact ⟨rfl, Below.refl _ _⟩

end Go.Proofs.Ytkcbdgdhcafcpaa
