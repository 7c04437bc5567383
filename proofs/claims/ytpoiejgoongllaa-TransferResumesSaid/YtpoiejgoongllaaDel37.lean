/-
  slices.Delete of packets.
-/
import Derived.Test.YtpoiejgoongllaaStart37
namespace Go.Proofs.Ytpoiejgoongllaa
section
set_option linter.unusedVariables false
set_option linter.unusedSimpArgs false
set_option linter.unnecessarySimpa false
open Go.RowKit
attribute [local go_sem ↓] Go.wp_at_zero Go.wp_at_succ

theorem pks_del {l : List Pk} {i : Nat} : (pksC l).take (i * 5) ++ (pksC l).drop ((i + 1) * 5) = pksC (l.eraseIdx i) := by
  unfold pksC
  rw [flat_take (f := pkC) (c := 5) (fun _ => rfl), flat_drop (f := pkC) (c := 5) (fun _ => rfl), List.eraseIdx_eq_take_drop_succ, List.flatMap_append]
set_option maxRecDepth 100000 in
set_option maxHeartbeats 1000000 in
theorem delete_pk (g m cap base i : Nat) (l : List Pk) (w : World) (hown : w.ownsRow base 55 5 (.slice (some ⟨g, 0, none⟩) (m + 1) cap) (m + 1) (pksC l)) (hi : i ≤ m) :
    Calls Try.prog 81 #[.slice (some ⟨g, 0, none⟩) (m + 1 : Nat) cap, .int .i64 i, .int .i64 ((i : Int) + 1)] w fun e w' => e = .returned (.slice (some ⟨g, 0, none⟩) m cap) ∧
      w'.ownsRow base 55 5 (.slice (some ⟨g, 0, none⟩) m cap) m (pksC (l.eraseIdx i)) ∧ Ch (At g) w w' := by
  obtain ⟨hc1, hc2⟩ := own_cap hown
  have hne : ((i : Int) == (i : Int) + 1) = false := by rw [beq_eq_false_iff_ne]; omega
  have hw1 : IntKind.i64.wrap ((i : Int) + 1) = (i : Int) + 1 := Go.IntWalk.i64_in _ (by omega)
  have hx0 := Ch.refl (At g) w
  have HX := Lib.hid hown
  clear hown
  by_cases hcap : cap = i + 1
  · obtain rfl : i = m := by omega
    subst hcap
    have q1 : (i : Int) ≤ ((i : Int) + 1) := by omega
    have q2 : (i : Int) + 1 ≤ (i : Int) + 1 := by omega
    have q3 : 0 ≤ (i : Int) + 1 := by omega
    have q4 : ((i : Int) + 1).toNat = i + 1 := by omega
    go_enter Try.func81, Try.ntmps81
    go_wp2_with fail
    refine wp_region_cls (Ch (At g) w) 6 (by kernel_rfl) ?_
    have hc0 := hx0.drew
    refine AllC.head 0 6 (fuel := 2) (by first | exact fun h k => Grew.trans h k | exact fun h k => cls_grew h k) (hc0) (by rfl) (by kernel_rfl) ?_
    simp only [List.take_succ_cons, List.take_zero, List.drop_succ_cons, List.drop_zero]
    repeat (first
      | (refine HeadC.val (by rfl) ?_
         apply Exists.intro
         refine ⟨fun w' hw' => ?_, ?_⟩
         · (have hf_0 := hc0; (go_simp) <;> (try go_ints) <;> with_reducible rfl)
         try simp only [Act.put, List.setIfInBounds_toArray, List.set_cons_zero, List.set_cons_succ])
      | (refine HeadC.shut (by rfl) ?_
         try simp only [Act.put, List.setIfInBounds_toArray, List.set_cons_zero, List.set_cons_succ]))
    refine HeadC.nil ?_
    refine AllC.tail 6 (by rfl) (by kernel_rfl) ?_
    intro wt hwt
    simp only [List.drop_succ_cons, List.drop_zero]
    have hc1' := hc0.next hwt
    have hown1 := own_below HX.out ((grew_drew _).trans hwt)
    clear q1 q2 q3 q4 hne hw1 hx0 hc0 hwt
    refine wpList_append_shift rfl (.tmp 22) (.tmp 25) rfl base elem_pk hown1 hi (ones_pks _) (by rfl) (by rfl) (by omega) (.inl rfl) ?_
    intro w2 ys hown2 hys hg2
    have HYS := Lib.hid hys
    clear hys
    have hml : (i : Int) ≤ (i : Int) + 1 := by omega
    have hmc : (i : Int) + 1 ≤ ((i : Int) + 1) := by omega
    obtain ⟨w3, hclr, hown3, hg3⟩ := run_clear_last (P := Try.prog) (ty := 0) base elem_pk (z := .agg #[.int .i64 0, .int .u64 0, .int .i64 0, .int .i64 0, .slice none 0 0]) (by kernel_rfl) rfl (by simp [Value.cells, Value.oneCell']) hown2 1
    go_wp2
    go_ret
    refine ⟨rfl, ?_, (hc1'.trans (Ch.of_grown hg2)).trans (Ch.of_grown hg3)⟩
    rw [HYS.out, pks_del] at hown3
    exact hown3
  · have hcI : ¬ (cap : Int) = (i : Int) + 1 := by omega
    have q1 : (i : Int) ≤ (cap : Int) := by omega
    have q2 : (i : Int) + 1 ≤ (m : Int) + 1 := by omega
    have q3 : 0 ≤ (i : Int) + 1 := by omega
    have q4 : ((i : Int) + 1).toNat = i + 1 := by omega
    go_enter Try.func81, Try.ntmps81
    go_wp2_with fail
    refine wp_region_cls (Ch (At g) w) 6 (by kernel_rfl) ?_
    have hc0 := hx0.drew
    refine AllC.head 0 6 (fuel := 2) (by first | exact fun h k => Grew.trans h k | exact fun h k => cls_grew h k) (hc0) (by rfl) (by kernel_rfl) ?_
    simp only [List.take_succ_cons, List.take_zero, List.drop_succ_cons, List.drop_zero]
    repeat (first
      | (refine HeadC.val (by rfl) ?_
         apply Exists.intro
         refine ⟨fun w' hw' => ?_, ?_⟩
         · (have hf_0 := hc0; (go_simp) <;> (try go_ints) <;> with_reducible rfl)
         try simp only [Act.put, List.setIfInBounds_toArray, List.set_cons_zero, List.set_cons_succ])
      | (refine HeadC.shut (by rfl) ?_
         try simp only [Act.put, List.setIfInBounds_toArray, List.set_cons_zero, List.set_cons_succ]))
    refine HeadC.nil ?_
    refine AllC.tail 6 (by rfl) (by kernel_rfl) ?_
    intro wt hwt
    simp only [List.drop_succ_cons, List.drop_zero]
    have hc1' := hc0.next hwt
    have hown1 := own_below HX.out ((grew_drew _).trans hwt)
    clear q1 q2 q3 q4 hne hw1 hx0 hc0 hwt
    refine wpList_append_shift rfl (.tmp 22) (.tmp 25) rfl base elem_pk hown1 hi (ones_pks _) (by rfl) (by rfl) (by omega) (.inr rfl) ?_
    intro w2 ys hown2 hys hg2
    have HYS := Lib.hid hys
    clear hys
    have hml : (m : Int) ≤ (m : Int) + 1 := by omega
    have hmc : (m : Int) + 1 ≤ (cap : Int) := by omega
    obtain ⟨w3, hclr, hown3, hg3⟩ := run_clear_last (P := Try.prog) (ty := 0) base elem_pk (z := .agg #[.int .i64 0, .int .u64 0, .int .i64 0, .int .i64 0, .slice none 0 0]) (by kernel_rfl) rfl (by simp [Value.cells, Value.oneCell']) hown2 (cap - m)
    go_wp2
    go_ret
    refine ⟨rfl, ?_, (hc1'.trans (Ch.of_grown hg2)).trans (Ch.of_grown hg3)⟩
    rw [HYS.out, pks_del] at hown3
    exact hown3
end
end Go.Proofs.Ytpoiejgoongllaa
