/-
  stockyardlaw23.RollingSums, RollingSizes return true, for byte strings of at most 1048576 bytes.
-/
import Derived.Test.YtkcbdgdhcafcpaaRolled
import Derived.Test.YtkcbdgdhcafcpaaRefRoll
import Derived.Test.YtkcbdgdhcafcpaaSame
namespace Go.Proofs.Ytkcbdgdhcafcpaa
set_option linter.unusedVariables false
set_option linter.unusedSimpArgs false
set_option linter.unnecessarySimpa false
open Go.RowKit
attribute [local go_sem ↓] Go.wp_at_zero Go.wp_at_succ

set_option maxHeartbeats 1000000 in
theorem lawRSums_any (v : Int) (A : Option Addr) (cap : Nat) (zs : List Int) (w : World) (v0 : -9223372036854775808 ≤ v) (v1 : v ≤ 9223372036854775807)
    (hr : Row w w.heap.size A (zs.map (.int .u8))) (hz : ∀ z ∈ zs, 0 ≤ z ∧ z ≤ 255) (hm : zs.length ≤ 1048576) :
    Calls Try.prog 3 #[.int .i64 v, .slice A zs.length cap] w fun e w' => e = .returned (.bool true) ∧ Below w.heap.size w w' := by
  have Hz := Lib.hid hz
  clear hz
  go_enter Try.func3, Try.ntmps3
  go_wp2_with fail
  refine (size23_any v v0 v1 _).mono ?_
  rintro e w0 ⟨n, rfl, n0, n1, hn, rfl⟩
  go_wp2_with fail
  refine (rSums_ok n A cap _ zs _ n0 n1 hr (Nat.le_refl _) Hz.out hm).mono ?_
  rintro e w1 ⟨g, rfl, hown, hb1⟩
  go_wp2_with fail
  refine (size23_any v v0 v1 _).mono ?_
  rintro e w0 ⟨n', rfl, _, _, hn', rfl⟩
  obtain rfl : n' = n := by omega
  clear hn hn'
  go_wp2_with fail
  refine (refSums_any n' A cap _ zs _ n0 n1 (hr.below hb1 (Nat.le_refl _)) hb1.size Hz.out hm).mono ?_
  rintro e w2 ⟨A2, c2, rfl, hown2, hb⟩
  replace hown := own_below hown hb
  have hb2 : Grew w w2 := Grew.trans hb1 hb
  clear hb hb1
  go_wp2_with fail
  refine (known23_any _).mono ?_
  rintro e w3 ⟨rfl, hb⟩
  replace hown := own_below hown hb
  replace hown2 := own_below hown2 hb
  replace hb2 : Grew w w3 := Grew.trans hb2 hb
  clear hb
  have HS := Lib.hid (sameSums_any (some ⟨g, 0, none⟩) A2 zs.length c2 _ (winSums n' zs) (winSums n' zs) w3 (own_row hown) (own_row hown2) (by rw [winSums_length]; omega) (by rw [winSums_length]; omega))
  rw [winSums_length, eqZ_same] at HS
  go_wp2_with fail
  refine HS.out.mono ?_
  rintro e w4 ⟨rfl, hd⟩
  go_wp2_with fail
  go_ret
  exact ⟨by simp, Grew.trans hb2 (hd.below _)⟩

set_option maxHeartbeats 1000000 in
theorem lawRSizes_any (v : Int) (A : Option Addr) (cap : Nat) (zs : List Int) (w : World) (v0 : -9223372036854775808 ≤ v) (v1 : v ≤ 9223372036854775807)
    (hr : Row w w.heap.size A (zs.map (.int .u8))) (hz : ∀ z ∈ zs, 0 ≤ z ∧ z ≤ 255) (hm : zs.length ≤ 1048576) :
    Calls Try.prog 5 #[.int .i64 v, .slice A zs.length cap] w fun e w' => e = .returned (.bool true) ∧ Below w.heap.size w w' := by
  have Hz := Lib.hid hz
  clear hz
  by_cases hv : 1 ≤ v ∧ v ≤ 64
  · obtain ⟨n, rfl⟩ := Int.eq_ofNat_of_zero_le (show 0 ≤ v by omega)
    obtain ⟨n0, n1⟩ : 1 ≤ n ∧ n ≤ 64 := by omega
    have HN := Lib.hid (fun W => refNew_any n W)
    rw [if_pos hv, if_pos hv] at HN
    unfold rrV at HN
    clear hv
    go_enter Try.func5, Try.ntmps5
    go_wp2_with fail
    refine (rNew_ok n _ n0 n1).mono ?_
    rintro e w1 ⟨g, rfl, hR, hg, hb1⟩
    go_wp2_with fail
    refine (rSums_ok n A cap _ zs _ n0 n1 (hr.below hb1 (Nat.le_refl _)) hb1.size Hz.out hm).mono ?_
    rintro e w2 ⟨gs, rfl, hown, hb⟩
    replace hR := hR.of hb
    have hb2 : Grew w w2 := Grew.trans hb1 hb
    clear hb hb1 hown
    go_wp2_with fail
    refine (HN.out _).mono ?_
    rintro e w3 ⟨rfl, hb⟩
    replace hR := (hR.of hb).of (grew_alloc _ (.cells #[.int .i64 n, .slice none 0 0] 39))
    replace hb2 : Grew w (w3.alloc (.cells #[.int .i64 n, .slice none 0 0] 39)) := Grew.trans (Grew.trans hb2 hb) (grew_alloc _ _)
    clear hb HN
    go_wp2_with fail
    refine (known23_any _).mono ?_
    rintro e w4 ⟨rfl, hb⟩
    replace hR := hR.of hb
    replace hb2 : Grew w w4 := Grew.trans hb2 hb
    clear hb
    go_wp2_with fail
    refine (rLen_any g n _ _ hR).mono ?_
    rintro e wn ⟨rfl, rfl⟩
    go_wp2_with fail
    refine (rSum_any g n _ _ hR).mono ?_
    rintro e wn ⟨rfl, rfl⟩
    rw [sumZ_nil]
    go_wp2_with fail
    go_ret
    exact ⟨by simp, hb2⟩
  · have HN := Lib.hid (fun W => refNew_any v W)
    rw [if_neg hv, if_neg hv] at HN
    unfold rrV at HN
    have HV := Lib.hid hv
    clear hv
    go_enter Try.func5, Try.ntmps5
    go_wp2_with fail
    refine (rNew_no v _ HV.out).mono ?_
    rintro e wn ⟨rfl, rfl⟩
    go_wp2_with fail
    refine (rSums_no v A _ cap _ HV.out).mono ?_
    rintro e wn ⟨rfl, rfl⟩
    go_wp2_with fail
    refine (HN.out _).mono ?_
    rintro e w3 ⟨rfl, hb⟩
    have hb2 : Grew w (w3.alloc (.cells #[.int .i64 0, .slice none 0 0] 39)) := Grew.trans hb (grew_alloc _ _)
    clear hb HN
    go_wp2_with fail
    refine (known23_any _).mono ?_
    rintro e w4 ⟨rfl, hb⟩
    replace hb2 : Grew w w4 := Grew.trans hb2 hb
    clear hb
    go_wp2_with fail
    go_ret
    exact ⟨by simp, hb2⟩

end Go.Proofs.Ytkcbdgdhcafcpaa
