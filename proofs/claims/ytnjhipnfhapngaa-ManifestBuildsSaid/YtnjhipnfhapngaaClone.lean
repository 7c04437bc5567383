/-
  slices.Clone of bytes; chunker.Split.
-/
import Derived.Test.YtnjhipnfhapngaaCutPre
import Derived.ArgAppend
namespace Go.Proofs.Ytnjhipnfhapngaa
set_option linter.unusedVariables false
set_option linter.unusedSimpArgs false
set_option linter.unnecessarySimpa false
open Go.RowKit
attribute [local go_sem ↓] Go.wp_at_zero Go.wp_at_succ

set_option maxHeartbeats 1000000 in
theorem clone_any (ad : Addr) (cap B : Nat) (zs : List Int) (w : World) (hr : Row w B (some ad) (zs.map (.int .u8))) (hB : B ≤ w.heap.size) (hne : 1 ≤ zs.length) (hm : zs.length ≤ 1048576) :
    Calls Try.prog 84 #[.slice (some ad) zs.length cap] w fun e w' => ∃ A' cap', e = .returned (.slice A' zs.length cap') ∧
      w'.ownsRow w.heap.size 5 1 (.slice A' zs.length cap') zs.length (zs.map (.int .u8)) ∧ Below w.heap.size w w' := by
  obtain ⟨i0, hi, hz0, hz1, hz2⟩ := info_parts (show (Try.prog.info? 5).map (fun i => (i.zero, i.size, i.bytes)) = some (some (.int .u8 0), 1, 1) from by kernel_rfl)
  have hq : ∀ W, Sem.run Try.prog (binOp .eql 34 (.slice (some ad) zs.length cap) (.slice none 0 0)) W = .ok (.bool false) W := fun W => by kernel_rfl
  go_enter Try.func84, Try.ntmps84
  have hcell : ∀ j u, (zs.map (Value.int .u8))[j]? = some u → (w.alloc (.cells #[] 5)).cell? (ad.add j) = some u := fun j u hj => by
    obtain ⟨hj', rfl⟩ := List.getElem?_eq_some_iff.1 hj
    obtain ⟨ad', he, hb, hc⟩ := (hr.below (grew_alloc w (.cells #[] 5)) hB).at_ (k := j) hj'
    obtain rfl : ad = ad' := by injection he
    exact hc
  have HQ := Lib.hid hq
  have HCe := Lib.hid hcell
  clear hcell
  go_wp2_with (at_builtin; refine wpList_append_grows (w.alloc (.cells #[] 5)) rfl (.tmp 5) (.tmp 6) 34 rfl 5 i0 (.int .u8 0) 1 1 Try.underlying34 hi hz0 hz1 hz2 rfl (by omega) (some ⟨w.heap.size, 0, none⟩) 0 0 [] rfl (fun h => by cases h) rfl (fun b _ j u hj => by simp at hj) ad zs.length cap (zs.map (.int .u8)) rfl (by simp) HCe.out (ones_u8 zs) (by omega) (by unfold maxLen; omega) (by omega) ?_; intro v' w' hown hgrow)
  obtain ⟨A1, c1, rfl, hcap⟩ := own_form hown
  have hown' := own_mono hown (grew_alloc w (.cells #[] 5)).size
  have hb : Below w.heap.size w w' := (grew_alloc w (.cells #[] 5)).grown hgrow (grew_alloc w (.cells #[] 5)).size (by simp)
  rw [List.nil_append, Nat.zero_add] at hown'
  clear hown hgrow hq
  go_wp2_with (fail)
  go_ret
  exact ⟨A1, c1, by simp, hown', hb⟩

end Go.Proofs.Ytnjhipnfhapngaa
