/-
  stockyardlaw37.right: the chunks of byte strings.
-/
import Derived.Test.YtpoiejgoongllaaFill37
namespace Go.Proofs.Ytpoiejgoongllaa
set_option linter.unusedVariables false
set_option linter.unusedSimpArgs false
set_option linter.unnecessarySimpa false
open Go.RowKit
attribute [local go_sem ↓] Go.wp_at_zero Go.wp_at_succ

set_option maxHeartbeats 2000000 in
theorem right37_any (L : Option Addr) (lc : Nat) (ps : List Part) (w : World) (hl : Row w w.heap.size L (ps.map Part.v)) (hlie : Lie w w.heap.size ps) (hpm : ∀ p ∈ ps, Byt p.zs ∧ p.zs.length ≤ 1048576) (hlb : ps.length ≤ 1048576) :
    Calls Try.prog 13 #[.slice L ps.length lc] w fun e w' => ∃ A c, e = .returned (.slice A ps.length c) ∧ w'.ownsRow w.heap.size 64 3 (.slice A ps.length c) ps.length (chsC (rightC ps)) ∧ Below w.heap.size w w' := by
  have HPm := Lib.hid hpm
  clear hpm
  go_enter Try.func13, Try.ntmps13
  go_wp2_with fail
  go_loopw [3, 4] (fun s i wr => ∃ (k : Nat) (A : Option Addr) (c : Nat), k ≤ ps.length ∧ i = .int .i64 k ∧ s = .slice A k c ∧ wr.ownsRow w.heap.size 64 3 (.slice A k c) k (chsC (rightC (ps.take k))) ∧ Below w.heap.size w wr) (fun _ i _ => ps.length - (intOf i).toNat)
  case atStart => exact ⟨0, none, 0, Nat.zero_le _, rfl, rfl, World.ownsRow_nil _ _ _ _, Below.refl _ _⟩
  case round =>
    obtain ⟨k, A, c, hk, rfl, rfl, hown, hb⟩ := hrel
    have hws := Below.size hb
    by_cases hlt : k < ps.length
    · obtain ⟨ad, hadd, hbl, hc⟩ := part_at (hl.up hb (Nat.le_refl _)) hlt
      subst hadd
      have hrk := (hlie _ (List.getElem_mem hlt)).up hb (Nat.le_refl _)
      obtain ⟨hzb, hzl⟩ := HPm.out _ (List.getElem_mem hlt)
      have hsn := Lib.hid (right_snoc ps k hlt)
      have hnq : ¬ (fun i => (Value.slice A k c).ownBlock = some i) (ad.add k).block := fun h => by have := own_lt hown _ h; rw [add_block] at this; omega
      generalize ps[k].zs = ys at *
      generalize ps[k].A = pA at *
      generalize ps[k].cap = pc at *
      go_wp2_with fail
      refine wp_region_cls (Ch (fun i => (Value.slice A k c).ownBlock = some i) wr) 13 (by kernel_rfl) ?_
      have hc0 := (Ch.refl (fun i => (Value.slice A k c).ownBlock = some i) wr).drew
      refine AllC.head 0 11 (fuel := 3) (by first | exact fun h k => Grew.trans h k | exact fun h k => cls_grew h k) (hc0) (by rfl) (by kernel_rfl) ?_
      simp only [List.take_succ_cons, List.take_zero, List.drop_succ_cons, List.drop_zero]
      repeat (first
        | (refine HeadC.val (by rfl) ?_
           apply Exists.intro
           refine ⟨fun w' hw' => ?_, ?_⟩
           · (have hf_0 := hw'.cell hc hnq; (go_simp) <;> (try go_ints) <;> with_reducible rfl)
           try simp only [Act.put, List.setIfInBounds_toArray, List.set_cons_zero, List.set_cons_succ])
        | (refine HeadC.call (by rfl) ?_
           apply Exists.intro; apply Exists.intro
           refine ⟨fun w' hw' => ?_, ?_⟩
           · (have hf_0 := hw'.cell hc hnq; (go_simp) <;> first | (refine ⟨?_, ?_⟩ <;> with_reducible rfl) | with_reducible rfl)
           apply Exists.intro
           refine ⟨fun w' hw' => ?_, ?_⟩
           · (first | exact refOf_any pA pc w.heap.size ys w' (hrk.ch hw' hws (fun i hi => own_lt hown i hi)) (Nat.le_trans hws hw'.size) hzb (by omega))
           try simp only [Act.put, List.setIfInBounds_toArray, List.set_cons_zero, List.set_cons_succ])
        | (refine HeadC.shut (by rfl) ?_
           try simp only [Act.put, List.setIfInBounds_toArray, List.set_cons_zero, List.set_cons_succ]))
      refine HeadC.nil ?_
      refine AllC.one 11 (by kernel_rfl) rfl ?_
      intro wg hg K hK
      go_simp
      have hg0 := (grew_drew wr).trans hg
      have hga := grew_alloc wg (.cells #[.int .u64 (sumZ ys), .int .i64 ys.length, .slice pA ys.length pc] 64)
      have hc7 : Ch (fun i => (Value.slice A k c).ownBlock = some i) wr (wg.alloc (.cells #[.int .u64 (sumZ ys), .int .i64 ys.length, .slice pA ys.length pc] 64)) := (Ch.of_below hg0).alloc _
      have hown7 := own_below hown (hg0.trans hga)
      have hrow7 := Blk.row (Blk.new wg 64 #[.int .u64 (sumZ ys), .int .i64 ys.length, .slice pA ys.length pc])
      refine hK.out _ _ hc7 ?_
      clear hK K hg hc0 hga
      try simp only [Act.put, List.setIfInBounds_toArray, List.set_cons_zero, List.set_cons_succ]
      have hsz7 : w.heap.size ≤ (wg.alloc (.cells #[.int .u64 (sumZ ys), .int .i64 ys.length, .slice pA ys.length pc] 64)).heap.size := Nat.le_trans hws hc7.size
      generalize wg.alloc (.cells #[.int .u64 (sumZ ys), .int .i64 ys.length, .slice pA ys.length pc] 64) = w7 at *
      generalize wg.heap.size = g7 at *
      clear hg0 wg
      refine AllC.one 12 (by kernel_rfl) rfl ?_
      intro wg hg K hK
      have hown8 := own_below hown7 hg
      have hrow8 := hrow7.up hg (Nat.le_refl _)
      have hsz8 := Nat.le_trans hsz7 hg.size
      refine step_append_row rfl (.tmp 11) (.tmp 22) rfl w.heap.size elem_chunk (by rfl) hown8 _ (by rfl) (by rfl) hrow8 (by simp [Value.oneCell']) (by unfold maxLen; omega) (by omega) (by omega) ?_
      intro A8 c8 w8 hown9 hg8 hwh
      have hc8 : Ch (fun i => (Value.slice A k c).ownBlock = some i) wr w8 := (hc7.next hg).trans (Ch.of_own hg8)
      refine hK.out _ _ hc8 ?_
      have hb8 : Below w.heap.size w w8 := Below.trans (B := w.heap.size) hb (hc8.below hws (fun i hi => own_lt hown i hi))
      clear hK K hg hg8 hwh hown8 hrow8 hown7 hrow7 hc7 hc8 hsz8 hsz7
      try simp only [Act.put, List.setIfInBounds_toArray, List.set_cons_zero, List.set_cons_succ]
      refine AllC.tail 13 (by rfl) (by kernel_rfl) ?_
      intro wt hwt
      simp only [List.drop_succ_cons, List.drop_zero]
      have hown10 : wt.ownsRow w.heap.size 64 3 (.slice A8 (k + 1) c8) (k + 1) (chsC (rightC (ps.take (k + 1)))) := by rw [hsn.out]; exact own_below hown9 hwt
      have hb10 : Below w.heap.size w wt := Below.trans (B := w.heap.size) hb8 (hwt.mono (Below.size hb8))
      clear hown9 hb8 hwt hrk hc hown hnq
      go_wp2_with fail
      go_roundw
      case rel => exact ⟨k + 1, A8, c8, by omega, by go_num, rfl, hown10, hb10⟩
      case measure => simp [intOf]; omega
    · obtain rfl : k = ps.length := by omega
      rw [List.take_length] at hown
      go_wp2_with fail
      go_ret
      exact ⟨A, c, rfl, hown, hb⟩


/-- some of the chunks -/
def Some37Res (t B M : Nat) (cs : List ChZ) (w : World) (e : Ending) (w' : World) : Prop := ∃ (A : Option Addr) (cap : Nat) (qs : List ChZ), e = .returned (.slice A qs.length cap) ∧ qs.length ≤ cs.length ∧ (∀ q ∈ qs, q ∈ cs) ∧
  w'.ownsRow w.heap.size 64 3 (.slice A qs.length cap) qs.length (chsC qs) ∧ Tp w' t B (M + cs.length) ∧ Ch (At t) w w'
set_option maxRecDepth 100000 in
set_option maxHeartbeats 4000000 in
theorem some37_no (t B M bl : Nat) (L : Option Addr) (lc : Nat) (cs : List ChZ) (w : World) (hT : Tp w t B M) (hl : w.ownsRow bl 64 3 (.slice L cs.length lc) cs.length (chsC cs)) (hn : cs.length ≤ 1000) (hM : M ≤ 281474976710656) :
    Calls Try.prog 18 #[.pointer (some ⟨t, 0, none⟩), .slice L cs.length lc, .bool false] w (Some37Res t B M cs w) := by
  have hlt0 := hT.lt
  have hBw : B ≤ w.heap.size := by have h1 := hT.le; omega
  have HL := Lib.hid hl
  have HTl := Lib.hid hlt0
  have HNt := Lib.hid (fun (i : Nat) (hi : (Value.slice L cs.length lc).ownBlock = some i) (h : At t i) => (show False from by
    obtain ⟨_, _, _, _, hBt, _⟩ := hT.ex
    have h2 : i = t := h
    subst h2
    exact own_blk_ne hl hBt (by decide) hi))
  clear hl
  go_enter Try.func18, Try.ntmps18
  go_wp2_with fail
  go_loopw [7, 8] (fun v i wr => ∃ (k : Nat) (qs : List ChZ) (A : Option Addr) (cap : Nat), k ≤ cs.length ∧ i = .int .i64 k ∧ v = .slice A qs.length cap ∧ qs.length ≤ k ∧ (∀ q ∈ qs, q ∈ cs) ∧ wr.ownsRow w.heap.size 64 3 (.slice A qs.length cap) qs.length (chsC qs) ∧ Tp wr t B (M + k) ∧ Ch (At t) w wr) (fun _ i _ => cs.length - (intOf i).toNat)
  case atStart => exact ⟨0, [], none, 0, Nat.zero_le _, rfl, rfl, Nat.le_refl _, fun q hq => (by cases hq), World.ownsRow_nil _ _ _ _, hT, Ch.refl _ _⟩
  case round =>
    clear hT
    obtain ⟨k, qs, A, cap, hk, rfl, rfl, hqk, hq, hown, hT, hch⟩ := hrel
    have HQ := Lib.hid hq
    clear hq
    by_cases hlt : k < cs.length
    · go_wp2_with fail
      refine (tapeNext_any _ _ _ 4 _ hT (by omega) (by omega)).mono ?_
      rintro e w2 ⟨x, rfl, hx, hT2, hch2⟩
      have y2 : x < 4 := by omega
      have hnot : ∀ {base : Nat} {v : Value} {n : Nat} {xs : List Value}, wr.ownsRow base 64 3 v n xs → w2.ownsRow base 64 3 v n xs := fun ho => own_ch ho hch2 (fun i hi h => by
        obtain ⟨_, _, _, _, hBt, _⟩ := hT.ex
        have h2 : i = t := h
        subst h2
        exact own_blk_ne ho hBt (by decide) hi)
      have hown2 := hnot hown
      have hl2 := own_ch HL.out (hch.trans hch2) (fun i hi h => HNt.out i hi h)
      obtain ⟨ad, hA, hbl, d0, d1, d2⟩ := chs_at (own_row hl2) hlt
      have hmem := List.getElem_mem hlt
      have hch3 := hch.trans hch2
      have hs2 := hch3.size
      clear hnot hown hT hch hch2 hx hl2
      have hx4 : x = 0 ∨ x = 1 ∨ x = 2 ∨ x = 3 := by omega
      generalize hc : cs[k] = c at *
      have HC := Lib.hid hc
      clear hc
      obtain ⟨⟨j1, j2⟩, bA, bc, zs⟩ := c
      simp only at d0 d1 d2
      have HMem := Lib.hid hmem
      clear hmem
      rcases hx4 with rfl | rfl | rfl | rfl
      case inr.inr.inl =>
        clear hA d0 d1 d2
        go_wp2_with fail
        go_roundw
        case rel => exact ⟨k + 1, qs, A, cap, by omega, by go_num, rfl, by omega, HQ.out, hown2, hT2.more (by omega), hch3⟩
        case measure => simp [intOf]; omega
      case inr.inr.inr =>
        clear hA d0 d1 d2
        go_wp2_with fail
        go_roundw
        case rel => exact ⟨k + 1, qs, A, cap, by omega, by go_num, rfl, by omega, HQ.out, hown2, hT2.more (by omega), hch3⟩
        case measure => simp [intOf]; omega
      all_goals
        subst hA
        go_wp2_with (at_builtin; refine wpList_append_row rfl (.tmp 20) (.tmp 25) rfl w.heap.size elem_chunk (by rfl) (hown2.alloc _) _ (by rfl) (by rfl) (Blk.row (Blk.new w2 64 #[.int .u64 j1, .int .i64 j2, .slice bA zs.length bc])) (by simp [Value.oneCell']) (by unfold maxLen; omega) (by omega) (by simp; omega) ?_; intro A8 c8 w8 hown9 hg8 _; have hga := grew_alloc w2 (.cells #[.int .u64 j1, .int .i64 j2, .slice bA zs.length bc] 64); have hT9 := tape_own (hT2.of hga) (hown2.alloc (.cells #[.int .u64 j1, .int .i64 j2, .slice bA zs.length bc] 64)) hg8 (by decide) hBw; have hch9 := (hch3.next hga).nextNew (Ch.of_own hg8) (fun i hi => .inl (own_lt hown2 i hi)))
        go_roundw
        case rel =>
          refine ⟨k + 1, qs ++ [⟨(j1, j2), bA, bc, zs⟩], A8, c8, by omega, by go_num, by rw [List.length_append]; rfl, by rw [List.length_append, List.length_singleton]; omega, fun q hq => ?_, ?_, hT9.more (by omega), hch9⟩
          · rcases List.mem_append.1 hq with h | h
            · exact HQ.out q h
            · rw [List.mem_singleton] at h; subst h; exact HMem.out
          · rw [List.length_append, chsC_append]; exact hown9
        case measure => simp [intOf]; omega
    · obtain rfl : k = cs.length := by omega
      go_wp2_with fail
      go_ret
      exact ⟨A, cap, qs, rfl, hqk, HQ.out, hown, hT, hch⟩

end Go.Proofs.Ytpoiejgoongllaa
