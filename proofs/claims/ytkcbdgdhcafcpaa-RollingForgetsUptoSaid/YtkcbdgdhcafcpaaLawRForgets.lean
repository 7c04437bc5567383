/-
  stockyardlaw23.RollingForgets returns true, for byte strings of at most 1048576 bytes.
-/
import Derived.Test.YtkcbdgdhcafcpaaRolled
import Derived.Test.YtkcbdgdhcafcpaaJoined
namespace Go.Proofs.Ytkcbdgdhcafcpaa
set_option linter.unusedVariables false
set_option linter.unusedSimpArgs false
set_option linter.unnecessarySimpa false
open Go.RowKit
attribute [local go_sem ↓] Go.wp_at_zero Go.wp_at_succ

set_option maxHeartbeats 1000000 in
theorem lawRForgets_any (v : Int) (A1 : Option Addr) (cap1 : Nat) (x : List Int) (A2 : Option Addr) (cap2 : Nat) (y : List Int) (A3 : Option Addr) (cap3 : Nat) (t : List Int) (w : World) (v0 : -9223372036854775808 ≤ v) (v1 : v ≤ 9223372036854775807)
    (hx : Row w w.heap.size A1 (x.map (.int .u8))) (zx : ∀ z ∈ x, 0 ≤ z ∧ z ≤ 255) (mx : x.length ≤ 1048576) (hy : Row w w.heap.size A2 (y.map (.int .u8))) (zy : ∀ z ∈ y, 0 ≤ z ∧ z ≤ 255) (my : y.length ≤ 1048576)
    (ht : Row w w.heap.size A3 (t.map (.int .u8))) (zt : ∀ z ∈ t, 0 ≤ z ∧ z ≤ 255) (mt : t.length ≤ 1048576) :
    Calls Try.prog 6 #[.int .i64 v, .slice A1 x.length cap1, .slice A2 y.length cap2, .slice A3 t.length cap3] w fun e w' => e = .returned (.bool true) ∧ Below w.heap.size w w' := by
  have Zxt := Lib.hid (show ∀ z ∈ x ++ t, 0 ≤ z ∧ z ≤ 255 from fun z hz => (List.mem_append.1 hz).elim (zx z) (zt z))
  have Zyt := Lib.hid (show ∀ z ∈ y ++ t, 0 ≤ z ∧ z ≤ 255 from fun z hz => (List.mem_append.1 hz).elim (zy z) (zt z))
  clear zx zy zt
  go_enter Try.func6, Try.ntmps6
  go_wp2_with fail
  refine (size23_any v v0 v1 _).mono ?_
  rintro e w0 ⟨n, rfl, n0, n1, hn, rfl⟩
  clear hn
  by_cases hlt : t.length < n
  · have hlt' : (t.length : Int) < n := by omega
    go_wp2_with fail
    go_ret
    exact ⟨rfl, Below.refl _ _⟩
  · have hlt' : (n : Int) ≤ t.length := by omega
    have Hxy := Lib.hid (lastN_append (n := n) (xs := x) (ys := t) (by omega))
    have Hyt := Lib.hid (lastN_append (n := n) (xs := y) (ys := t) (by omega))
    have hlen : (lastN n t).length = n := by rw [lastN_len]; omega
    have lx : (x ++ t).length ≤ 9223372036854775807 := by rw [List.length_append]; omega
    have ly : (y ++ t).length ≤ 9223372036854775807 := by rw [List.length_append]; omega
    have HL := Lib.hid hlen
    have HX := Lib.hid lx
    have HY := Lib.hid ly
    clear hlen lx ly
    have g0 := grew_alloc w (.cells #[.slice A1 x.length cap1, .slice A3 t.length cap3] 22)
    have r0 := row_new (w := w) (t := 22) (cs := #[.slice A1 x.length cap1, .slice A3 t.length cap3]) (Nat.lt_succ_self _)
    have hx0 := (hx.below g0 (Nat.le_refl _)).more (Nat.le_succ _)
    have ht0 := (ht.below g0 (Nat.le_refl _)).more (Nat.le_succ _)
    have HJ := Lib.hid (joined_two _ 2 _ A1 A3 cap1 cap3 x t _ r0 hx0 ht0 (by simp) (by omega))
    clear r0 hx0 ht0
    go_wp2_with fail
    generalize x ++ t = xt at *
    refine HJ.out.mono ?_
    clear HJ
    rintro e w1 ⟨A4, cap4, rfl, hown, hb⟩
    have hb1 : Grew w _ := g0.trans hb
    go_wp2_with fail
    refine (pushed_any n A4 cap4 _ xt _ n0 n1 (own_row hown) (Nat.le_refl _) Zxt.out HX.out).mono ?_
    clear g0 hb hown
    rintro e w2 ⟨g1, rfl, hR1, hg1, hb⟩
    rw [Hxy.out] at hR1
    replace hb1 := Grew.trans hb1 hb
    clear hb hg1
    have g0 := grew_alloc w2 (.cells #[.slice A2 y.length cap2, .slice A3 t.length cap3] 22)
    have r0 := row_new (w := w2) (t := 22) (cs := #[.slice A2 y.length cap2, .slice A3 t.length cap3]) (Nat.lt_succ_self _)
    have hy0 := (hy.below (Grew.trans hb1 g0) (Nat.le_refl _)).more (Nat.le_trans hb1.size (Nat.le_succ _))
    have ht0 := (ht.below (Grew.trans hb1 g0) (Nat.le_refl _)).more (Nat.le_trans hb1.size (Nat.le_succ _))
    have HJ := Lib.hid (joined_two _ 2 _ A2 A3 cap2 cap3 y t _ r0 hy0 ht0 (by simp) (by omega))
    clear r0 hy0 ht0
    go_wp2_with fail
    generalize y ++ t = yt at *
    refine HJ.out.mono ?_
    clear HJ
    rintro e w3 ⟨A5, cap5, rfl, hown, hb⟩
    replace hR1 := hR1.of (g0.trans hb)
    replace hb1 := Grew.trans hb1 (g0.trans hb)
    clear g0 hb
    go_wp2_with fail
    refine (pushed_any n A5 cap5 _ yt _ n0 n1 (own_row hown) (Nat.le_refl _) Zyt.out HY.out).mono ?_
    clear hown
    rintro e w4 ⟨g2, rfl, hR2, hg2, hb⟩
    rw [Hyt.out] at hR2
    replace hR1 := hR1.of hb
    replace hb1 := Grew.trans hb1 hb
    clear hb hg2
    go_wp2_with fail
    refine (known23_any _).mono ?_
    rintro e w5 ⟨rfl, hb⟩
    replace hR1 := hR1.of hb
    replace hR2 := hR2.of hb
    replace hb1 := Grew.trans hb1 hb
    clear hb
    go_wp2_with fail
    refine (rSum_any g1 n _ _ hR1).mono ?_
    rintro e wn ⟨rfl, rfl⟩
    go_wp2_with fail
    refine (rSum_any g2 n _ _ hR2).mono ?_
    rintro e wn ⟨rfl, rfl⟩
    go_wp2_with fail
    refine (rLen_any g1 n _ _ hR1).mono ?_
    rintro e wn ⟨rfl, rfl⟩
    rw [HL.out]
    go_wp2_with fail
    refine (rLen_any g2 n _ _ hR2).mono ?_
    rintro e wn ⟨rfl, rfl⟩
    rw [HL.out]
    go_wp2_with fail
    go_ret
    exact ⟨by simp, hb1⟩

end Go.Proofs.Ytkcbdgdhcafcpaa
