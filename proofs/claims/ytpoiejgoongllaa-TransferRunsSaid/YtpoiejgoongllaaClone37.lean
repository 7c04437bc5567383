/-
  slices.Clone of bytes and of IDs, nil and empty ones let in.
-/
import Derived.Test.YtpoiejgoongllaaIds37
namespace Go.Proofs.Ytpoiejgoongllaa
section
set_option linter.unusedVariables false
set_option linter.unusedSimpArgs false
set_option linter.unnecessarySimpa false
open Go.RowKit
attribute [local go_sem ↓] Go.wp_at_zero Go.wp_at_succ

set_option maxRecDepth 100000 in
set_option maxHeartbeats 1000000 in
theorem cloneB_any (A : Option Addr) (cap B : Nat) (zs : List Int) (w : World) (hr : Row w B A (zs.map (.int .u8))) (hB : B ≤ w.heap.size) (hm : zs.length ≤ 70368744177664) :
    Calls Try.prog 58 #[.slice A zs.length cap] w fun e w' => ∃ A' cap', e = .returned (.slice A' zs.length cap') ∧
      w'.ownsRow w.heap.size 5 1 (.slice A' zs.length cap') zs.length (zs.map (.int .u8)) ∧ Below w.heap.size w w' := by
  cases A with
  | none =>
    have h0 : zs = [] := by
      rcases hr with h | ⟨ad, h, _⟩
      · have := congrArg List.length h
        simpa using this
      · cases h
    subst h0
    have hq : ∀ W, Sem.run Try.prog (binOp .eql 38 (.slice none 0 cap) (.slice none 0 0)) W = .ok (.bool true) W := fun W => by kernel_rfl
    simp only [List.length_nil]
    go_enter Try.func58, Try.ntmps58
    go_wp2_with fail
    go_ret
    exact ⟨none, 0, rfl, World.ownsRow_nil _ _ _ _, Below.refl _ _⟩
  | some ad =>
    have hq : ∀ W, Sem.run Try.prog (binOp .eql 38 (.slice (some ad) zs.length cap) (.slice none 0 0)) W = .ok (.bool false) W := fun W => by kernel_rfl
    have ga := grew_alloc w (.cells #[] 5)
    have hown0 : (w.alloc (.cells #[] 5)).ownsRow w.heap.size 5 1 (.slice (some ⟨w.heap.size, 0, none⟩) 0 0) 0 [] := World.ownsRow_lit w #[] 0 (Nat.le_refl _) (by unfold maxLen; omega) rfl
    have hrow := hr.up ga hB
    go_enter Try.func58, Try.ntmps58
    go_wp2_with (at_builtin; refine wpList_append_row rfl (.tmp 5) (.tmp 6) rfl w.heap.size elem_u8 (by rfl) hown0 _ (by rfl) (by simp) hrow (ones_u8 zs) (by unfold maxLen; omega) (by omega) (by simp) ?_; intro A' c' w' hown hg _)
    have hb : Below w.heap.size w w' := Below.trans (B := w.heap.size) ga (below_grown hg (by simp) (own_lt hown0))
    go_ret
    rw [List.nil_append, Nat.zero_add] at hown
    exact ⟨A', c', by simp, hown, hb⟩
set_option maxRecDepth 100000 in
set_option maxHeartbeats 1000000 in
theorem cloneI_any (A : Option Addr) (cap B : Nat) (zs : List IdZ) (w : World) (hr : Row w B A (idsC zs)) (hB : B ≤ w.heap.size) (hm : zs.length ≤ 1048576) :
    Calls Try.prog 57 #[.slice A zs.length cap] w fun e w' => ∃ A' cap', e = .returned (.slice A' zs.length cap') ∧
      w'.ownsRow w.heap.size 53 2 (.slice A' zs.length cap') zs.length (idsC zs) ∧ Below w.heap.size w w' := by
  cases A with
  | none =>
    have h0 : zs = [] := by
      rcases hr with h | ⟨ad, h, _⟩
      · have := congrArg List.length h
        rw [idsC_len] at this; simp only [List.length_nil] at this; exact List.eq_nil_of_length_eq_zero (by omega)
      · cases h
    subst h0
    have hq : ∀ W, Sem.run Try.prog (binOp .eql 31 (.slice none 0 cap) (.slice none 0 0)) W = .ok (.bool true) W := fun W => by kernel_rfl
    simp only [List.length_nil]
    go_enter Try.func57, Try.ntmps57
    go_wp2_with fail
    go_ret
    exact ⟨none, 0, rfl, World.ownsRow_nil _ _ _ _, Below.refl _ _⟩
  | some ad =>
    have hq : ∀ W, Sem.run Try.prog (binOp .eql 31 (.slice (some ad) zs.length cap) (.slice none 0 0)) W = .ok (.bool false) W := fun W => by kernel_rfl
    have ga := grew_alloc w (.cells #[] 53)
    have hown0 : (w.alloc (.cells #[] 53)).ownsRow w.heap.size 53 2 (.slice (some ⟨w.heap.size, 0, none⟩) 0 0) 0 [] := World.ownsRow_lit w #[] 0 (Nat.le_refl _) (by unfold maxLen; omega) rfl
    have hrow := hr.up ga hB
    go_enter Try.func57, Try.ntmps57
    go_wp2_with (at_builtin; refine wpList_append_row rfl (.tmp 5) (.tmp 6) rfl w.heap.size elem_id (by rfl) hown0 _ (by rfl) (by exact idsC_len zs) hrow (ones_ids zs) (by unfold maxLen; omega) (by omega) (by simp) ?_; intro A' c' w' hown hg _)
    have hb : Below w.heap.size w w' := Below.trans (B := w.heap.size) ga (below_grown hg (by simp) (own_lt hown0))
    go_ret
    rw [List.nil_append, Nat.zero_add] at hown
    exact ⟨A', c', by simp, hown, hb⟩
end
end Go.Proofs.Ytpoiejgoongllaa
