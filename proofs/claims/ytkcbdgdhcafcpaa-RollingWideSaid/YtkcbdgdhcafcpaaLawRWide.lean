/-
  stockyardlaw23.RollingWide returns true.
-/
import Derived.Test.YtkcbdgdhcafcpaaRolled
namespace Go.Proofs.Ytkcbdgdhcafcpaa
set_option linter.unusedVariables false
set_option linter.unusedSimpArgs false
set_option linter.unnecessarySimpa false
open Go.RowKit
attribute [local go_sem ↓] Go.wp_at_zero Go.wp_at_succ

set_option maxHeartbeats 1000000 in
theorem lawRWide_any (A : Option Addr) (cap : Nat) (zs : List Int) (w : World) (hr : Row w w.heap.size A (zs.map (.int .u8))) (hz : ∀ z ∈ zs, 0 ≤ z ∧ z ≤ 255) (hm : zs.length ≤ 140737488355328) :
    Calls Try.prog 8 #[.slice A zs.length cap] w fun e w' => e = .returned (.bool true) ∧ Below w.heap.size w w' := by
  have Hz := Lib.hid hz
  clear hz
  by_cases h1 : 1 ≤ zs.length ∧ zs.length ≤ 64
  · obtain ⟨h1, h2⟩ := h1
    have b0 : ((zs.length : Int) == 0) = false := beq_eq_false_iff_ne.2 (by omega)
    have b1 : ¬ (64 < (zs.length : Int)) := by omega
    go_enter Try.func8, Try.ntmps8
    go_wp2_with fail
    refine (rSums_ok zs.length A cap _ zs _ h1 h2 hr (Nat.le_refl _) Hz.out (by omega)).mono ?_
    rintro e w1 ⟨g, rfl, hown, hb1⟩
    have hr1 := hr.below hb1 (Nat.le_refl _)
    have hl := hown.cellAt (zs.length - 1) (by omega)
    rw [List.getElem?_eq_getElem (by rw [List.length_map, winSums_length]; omega), List.getElem_map, winSums_at zs.length zs (zs.length - 1) (by omega), show zs.length - 1 + 1 = zs.length by omega, List.take_length, lastN_all (Nat.le_refl _)] at hl
    have i0 : IntKind.i64.wrap ((zs.length : Int) - 1) = ((zs.length - 1 : Nat) : Int) := by rw [Go.IntWalk.i64_in] <;> omega
    have i1 : (zs.length : Int) - 1 = ((zs.length - 1 : Nat) : Int) := by omega
    have i2 : ((zs.length - 1 : Nat) : Int) < zs.length := by omega
    have i3 : ((zs.length : Int) - 1).toNat = zs.length - 1 := by omega
    have i4 : (0 : Int) ≤ (zs.length : Int) - 1 := by omega
    have i5 : (1 : Int) ≤ (zs.length : Int) := by omega
    have i6 : (zs.length : Int) - 1 < zs.length := by omega
    have I1 := Lib.hid i1
    clear i1 hown i0
    go_wp2_with fail
    refine wp_region_g 23 (by kernel_rfl) ?_
    refine AllC.head 0 23 (fuel := 1) (by first | exact fun h k => Grew.trans h k | exact fun h k => cls_grew h k) (grew_drew _) (by rfl) (by kernel_rfl) ?_
    simp only [List.take_succ_cons, List.take_zero, List.drop_succ_cons, List.drop_zero]
    repeat (first
      | (refine HeadC.val (by rfl) ?_
         apply Exists.intro
         refine ⟨fun w' hw' => ?_, ?_⟩
         · (have hf_0 := cell_up hw' hl; (go_simp) <;> (try go_ints) <;> with_reducible rfl)
         try simp only [Act.put, List.setIfInBounds_toArray, List.set_cons_zero, List.set_cons_succ])
      | (refine HeadC.call (by rfl) ?_
         apply Exists.intro; apply Exists.intro
         refine ⟨fun w' hw' => ?_, ?_⟩
         · (have hf_0 := cell_up hw' hl; (go_simp) <;> first | (refine ⟨?_, ?_⟩ <;> with_reducible rfl) | with_reducible rfl)
         apply Exists.intro
         refine ⟨fun w' hw' => ?_, ?_⟩
         · (first | exact known23_any _ | exact grew_same (sum_any A cap _ zs _ (hr1.below hw' hb1.size) Hz.out (by omega)))
         try simp only [Act.put, List.setIfInBounds_toArray, List.set_cons_zero, List.set_cons_succ])
      | (refine HeadC.shut (by rfl) ?_
         try simp only [Act.put, List.setIfInBounds_toArray, List.set_cons_zero, List.set_cons_succ]))
    refine HeadC.nil ?_
    refine AllC.tail 23 (by rfl) (by kernel_rfl) ?_
    intro wt hwt
    simp only [List.drop_succ_cons, List.drop_zero]
    go_wp2_with fail
    go_ret
    exact ⟨by simp, hb1.trans (((grew_drew _).trans hwt).mono hb1.size)⟩
  · by_cases h0 : zs.length = 0
    · have b0 : ((zs.length : Int) == 0) = true := beq_iff_eq.2 (by omega)
      clear h1
      have H0 := Lib.hid h0
      clear h0
      go_enter Try.func8, Try.ntmps8
      go_wp2_with fail
      go_ret
      exact ⟨rfl, Below.refl _ _⟩
    · have b0 : ((zs.length : Int) == 0) = false := beq_eq_false_iff_ne.2 (by omega)
      have b1 : 64 < (zs.length : Int) := by omega
      clear h1 h0
      go_enter Try.func8, Try.ntmps8
      go_wp2_with fail
      go_ret
      exact ⟨rfl, Below.refl _ _⟩

end Go.Proofs.Ytkcbdgdhcafcpaa
