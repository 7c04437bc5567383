/-
  stockyardlaw37.ids.
-/
import Derived.Test.YtpoiejgoongllaaMid37
namespace Go.Proofs.Ytpoiejgoongllaa
section
set_option linter.unusedVariables false
set_option linter.unusedSimpArgs false
set_option linter.unnecessarySimpa false
open Go.RowKit
attribute [local go_sem ↓] Go.wp_at_zero Go.wp_at_succ

theorem idsC_snoc (l : List IdZ) (x : IdZ) : idsC (l ++ [x]) = idsC l ++ [.int .u64 x.1, .int .i64 x.2] := by simp [idsC, idC]
set_option maxRecDepth 100000 in
set_option maxHeartbeats 1000000 in
theorem idsOf37_any (A : Option Addr) (c : Nat) (cs : List ChZ) (w : World) (hr : Row w w.heap.size A (chsC cs)) (hn : cs.length ≤ 1000000) :
    Calls Try.prog 30 #[.slice A cs.length c] w fun e w' => ∃ A' c', e = .returned (.slice A' cs.length c') ∧
      w'.ownsRow w.heap.size 53 2 (.slice A' cs.length c') cs.length (idsC (cs.map ChZ.id)) ∧ Grew w w' := by
  go_enter Try.func30, Try.ntmps30
  go_wp2_with fail
  go_loopw [3, 4] (fun s v wr => ∃ (k : Nat) (Ao : Option Addr) (co : Nat), k ≤ cs.length ∧ v = .int .i64 k ∧ s = .slice Ao k co ∧ wr.ownsRow w.heap.size 53 2 (.slice Ao k co) k (idsC ((cs.map ChZ.id).take k)) ∧ Below w.heap.size w wr) (fun _ v _ => cs.length - (intOf v).toNat)
  case atStart => exact ⟨0, none, 0, Nat.zero_le _, rfl, rfl, World.ownsRow_nil _ _ _ _, Below.refl _ _⟩
  case round =>
    obtain ⟨k, Ao, co, hk, rfl, rfl, hown, hb⟩ := hrel
    by_cases hlt : k < cs.length
    · obtain ⟨ad, hA, hbl, d0, d1, d2⟩ := chs_at (hr.below hb (Nat.le_refl _)) hlt
      have hsn := Lib.hid (show idsC ((cs.map ChZ.id).take (k + 1)) = idsC ((cs.map ChZ.id).take k) ++ [.int .u64 cs[k].id.1, .int .i64 cs[k].id.2] from by
        rw [List.take_succ_eq_append_getElem (by rw [List.length_map]; exact hlt), List.getElem_map, idsC_snoc])
      generalize cs[k] = x at *
      obtain ⟨⟨x1, x2⟩, xp⟩ := x
      simp only at d0 d1 hsn
      clear d2
      have hs0 := hb.size
      have ga := grew_alloc wr (.cells #[.int .u64 x1, .int .i64 x2] 53)
      have hown1 := own_below hown ga
      have hb1 : Below w.heap.size w (wr.alloc (.cells #[.int .u64 x1, .int .i64 x2] 53)) := Below.trans (B := w.heap.size) hb (ga.mono hs0)
      have hs1 := ga.size
      have HV := Lib.hid (Blk.row (Blk.new wr 53 #[.int .u64 x1, .int .i64 x2]))
      have HB := Lib.hid hb1
      clear hown hb ga hb1
      subst hA
      go_wp2_with (at_builtin; refine wpList_append_row rfl (.tmp 11) (.tmp 17) rfl w.heap.size elem_id (by rfl) hown1 _ (by rfl) (by rfl) HV.out (by simp [Value.oneCell']) (by unfold maxLen; omega) (by omega) (by first | omega | (simp; omega)) ?_; intro A8 c8 w8 hown8 hg8 _)
      have HO := Lib.hid (show w8.ownsRow w.heap.size 53 2 (.slice A8 (k + 1) c8) (k + 1) (idsC ((cs.map ChZ.id).take (k + 1))) from by rw [hsn.out]; exact hown8)
      have hb8 : Below w.heap.size w w8 := Below.trans (B := w.heap.size) HB.out (below_grown hg8 (by omega) (own_lt hown1))
      clear hown1 hown8 hg8 d0 d1
      go_wp2_with fail
      go_roundw
      case rel => exact ⟨k + 1, A8, c8, by omega, by go_num, rfl, HO.out, hb8⟩
      case measure => simp [intOf]; omega
    · obtain rfl : k = cs.length := by omega
      rw [List.take_of_length_le (by rw [List.length_map]; exact Nat.le_refl _)] at hown
      go_wp2_with fail
      go_ret
      exact ⟨Ao, co, rfl, hown, hb⟩
end
end Go.Proofs.Ytpoiejgoongllaa
