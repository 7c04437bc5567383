/-
  stockyardlaw25.right: the chunks of byte strings.
-/
import Derived.Test.YtnjhipnfhapngaaBack25
namespace Go.Proofs.Ytnjhipnfhapngaa
set_option linter.unusedVariables false
set_option linter.unusedSimpArgs false
set_option linter.unnecessarySimpa false
open Go.RowKit
attribute [local go_sem ↓] Go.wp_at_zero Go.wp_at_succ

set_option maxHeartbeats 2000000 in
theorem right25_any (L : Option Addr) (lc : Nat) (ps : List Part) (w : World) (hl : Row w w.heap.size L (ps.map Part.v)) (hlie : Lie w w.heap.size ps) (hpm : ∀ p ∈ ps, Byt p.zs ∧ p.zs.length ≤ 1048576) (hlb : ps.length ≤ 1048576) :
    Calls Try.prog 24 #[.slice L ps.length lc] w fun e w' => ∃ A c, e = .returned (.slice A ps.length c) ∧ w'.ownsRow w.heap.size 53 3 (.slice A ps.length c) ps.length (chsC (rightC ps)) ∧ Below w.heap.size w w' := by
  have HPm := Lib.hid hpm
  clear hpm
  go_enter Try.func24, Try.ntmps24
  go_wp2_with fail
  go_loopw [3, 4] (fun s i wr => ∃ (k : Nat) (A : Option Addr) (c : Nat), k ≤ ps.length ∧ i = .int .i64 k ∧ s = .slice A k c ∧ wr.ownsRow w.heap.size 53 3 (.slice A k c) k (chsC (rightC (ps.take k))) ∧ Below w.heap.size w wr) (fun _ i _ => ps.length - (intOf i).toNat)
  case atStart => exact ⟨0, none, 0, Nat.zero_le _, rfl, rfl, World.ownsRow_nil _ _ _ _, Below.refl _ _⟩
  case round =>
    obtain ⟨k, A, c, hk, rfl, rfl, hown, hb⟩ := hrel
    have hws := Below.size hb
    by_cases hlt : k < ps.length
    · obtain ⟨ad, hadd, hbl, hc⟩ := part_at (hl.up hb (Nat.le_refl _)) hlt
      subst hadd
      have hrk := (hlie _ (List.getElem_mem hlt)).up hb (Nat.le_refl _)
      obtain ⟨hzb, hzl⟩ := HPm.out _ (List.getElem_mem hlt)
      have hsn := Lib.hid (right_snoc ps k hlt)
      have hnq : ¬ (fun i => (Value.slice A k c).ownBlock = some i) (ad.add k).block := fun h => by have := own_lt hown _ h; rw [add_block] at this; omega
      generalize ps[k].zs = ys at *
      generalize ps[k].A = pA at *
      generalize ps[k].cap = pc at *
      go_wp2_with fail
      refine wp_region_cls (Ch (fun i => (Value.slice A k c).ownBlock = some i) wr) 13 (by kernel_rfl) ?_
      have hc0 := (Ch.refl (fun i => (Value.slice A k c).ownBlock = some i) wr).drew
      refine AllC.head 0 11 (fuel := 3) (by first | exact fun h k => Grew.trans h k | exact fun h k => cls_grew h k) (hc0) (by rfl) (by kernel_rfl) ?_
      simp only [List.take_succ_cons, List.take_zero, List.drop_succ_cons, List.drop_zero]
      repeat (first
        | (refine HeadC.val (by rfl) ?_
           apply Exists.intro
           refine ⟨fun w' hw' => ?_, ?_⟩
           · (have hf_0 := hw'.cell hc hnq; (go_simp) <;> (try go_ints) <;> with_reducible rfl)
           try simp only [Act.put, List.setIfInBounds_toArray, List.set_cons_zero, List.set_cons_succ])
        | (refine HeadC.call (by rfl) ?_
           apply Exists.intro; apply Exists.intro
           refine ⟨fun w' hw' => ?_, ?_⟩
           · (have hf_0 := hw'.cell hc hnq; (go_simp) <;> first | (refine ⟨?_, ?_⟩ <;> with_reducible rfl) | with_reducible rfl)
           apply Exists.intro
           refine ⟨fun w' hw' => ?_, ?_⟩
           · (first | exact refOf_any pA pc w.heap.size ys w' (hrk.ch hw' hws (fun i hi => own_lt hown i hi)) (Nat.le_trans hws hw'.size) hzb (by omega))
           try simp only [Act.put, List.setIfInBounds_toArray, List.set_cons_zero, List.set_cons_succ])
        | (refine HeadC.shut (by rfl) ?_
           try simp only [Act.put, List.setIfInBounds_toArray, List.set_cons_zero, List.set_cons_succ]))
      refine HeadC.nil ?_
      refine AllC.one 11 (by kernel_rfl) rfl ?_
      intro wg hg K hK
      go_simp
      have hg0 := (grew_drew wr).trans hg
      have hga := grew_alloc wg (.cells #[.int .u64 (sumZ ys), .int .i64 ys.length, .slice pA ys.length pc] 53)
      have hc7 : Ch (fun i => (Value.slice A k c).ownBlock = some i) wr (wg.alloc (.cells #[.int .u64 (sumZ ys), .int .i64 ys.length, .slice pA ys.length pc] 53)) := (Ch.of_below hg0).alloc _
      have hown7 := own_below hown (hg0.trans hga)
      have hrow7 := Blk.row (Blk.new wg 53 #[.int .u64 (sumZ ys), .int .i64 ys.length, .slice pA ys.length pc])
      refine hK.out _ _ hc7 ?_
      clear hK K hg hc0 hga
      try simp only [Act.put, List.setIfInBounds_toArray, List.set_cons_zero, List.set_cons_succ]
      have hsz7 : w.heap.size ≤ (wg.alloc (.cells #[.int .u64 (sumZ ys), .int .i64 ys.length, .slice pA ys.length pc] 53)).heap.size := Nat.le_trans hws hc7.size
      generalize wg.alloc (.cells #[.int .u64 (sumZ ys), .int .i64 ys.length, .slice pA ys.length pc] 53) = w7 at *
      generalize wg.heap.size = g7 at *
      clear hg0 wg
      refine AllC.one 12 (by kernel_rfl) rfl ?_
      intro wg hg K hK
      have hown8 := own_below hown7 hg
      have hrow8 := hrow7.up hg (Nat.le_refl _)
      have hsz8 := Nat.le_trans hsz7 hg.size
      refine step_append_row rfl (.tmp 11) (.tmp 22) rfl w.heap.size elem_chunk (by rfl) hown8 _ (by rfl) (by rfl) hrow8 (by simp [Value.oneCell']) (by unfold maxLen; omega) (by omega) (by omega) ?_
      intro A8 c8 w8 hown9 hg8 hwh
      have hc8 : Ch (fun i => (Value.slice A k c).ownBlock = some i) wr w8 := (hc7.next hg).trans (Ch.of_own hg8)
      refine hK.out _ _ hc8 ?_
      have hb8 : Below w.heap.size w w8 := Below.trans (B := w.heap.size) hb (hc8.below hws (fun i hi => own_lt hown i hi))
      clear hK K hg hg8 hwh hown8 hrow8 hown7 hrow7 hc7 hc8 hsz8 hsz7
      try simp only [Act.put, List.setIfInBounds_toArray, List.set_cons_zero, List.set_cons_succ]
      refine AllC.tail 13 (by rfl) (by kernel_rfl) ?_
      intro wt hwt
      simp only [List.drop_succ_cons, List.drop_zero]
      have hown10 : wt.ownsRow w.heap.size 53 3 (.slice A8 (k + 1) c8) (k + 1) (chsC (rightC (ps.take (k + 1)))) := by rw [hsn.out]; exact own_below hown9 hwt
      have hb10 : Below w.heap.size w wt := Below.trans (B := w.heap.size) hb8 (hwt.mono (Below.size hb8))
      clear hown9 hb8 hwt hrk hc hown hnq
      go_wp2_with fail
      go_roundw
      case rel => exact ⟨k + 1, A8, c8, by omega, by go_num, rfl, hown10, hb10⟩
      case measure => simp [intOf]; omega
    · obtain rfl : k = ps.length := by omega
      rw [List.take_length] at hown
      go_wp2_with fail
      go_ret
      exact ⟨A, c, rfl, hown, hb⟩

end Go.Proofs.Ytnjhipnfhapngaa
