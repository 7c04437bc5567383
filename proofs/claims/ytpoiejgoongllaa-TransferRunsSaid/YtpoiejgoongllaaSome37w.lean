/-
  stockyardlaw37.some with wrong chunks among them.
-/
import Derived.Test.YtpoiejgoongllaaSome37
import Derived.Test.YtpoiejgoongllaaKnown25
namespace Go.Proofs.Ytpoiejgoongllaa
set_option linter.unusedVariables false
set_option linter.unusedSimpArgs false
set_option linter.unnecessarySimpa false
open Go.RowKit
attribute [local go_sem ↓] Go.wp_at_zero Go.wp_at_succ

/-- a chunk of cs with another first byte -/
def WrongC (cs : List ChZ) (q : ChZ) : Prop := ∃ c ∈ cs, ∃ b : Nat, b < 3 ∧ q.id = c.id ∧ q.p.zs = (b : Int) :: c.p.zs.drop 1
def SomeWRes (t B M bl : Nat) (cs : List ChZ) (w : World) (e : Ending) (w' : World) : Prop := ∃ (A : Option Addr) (cap : Nat) (qs : List ChZ), e = .returned (.slice A qs.length cap) ∧ qs.length ≤ cs.length ∧ (∀ q ∈ qs, q ∈ cs ∨ WrongC cs q) ∧
  w'.ownsRow w.heap.size 64 3 (.slice A qs.length cap) qs.length (chsC qs) ∧ (∀ q ∈ qs, Tx w' bl q.p ∧ q.p.zs.length ≤ q.p.cap) ∧ Tp w' t B (M + 2 * cs.length) ∧ Ch (At t) w w'
theorem row_tail {w : World} {B : Nat} {A : Option Addr} {zs : List Int} (h : Row w B A (zs.map (.int .u8))) (c : Nat) (hc : zs.length ≤ c) : Row w B (if c = 1 then A else A.map (·.add 1)) ((zs.drop 1).map (.int .u8)) := by
  have h2 := h.cut' (lo := 1) (m := zs.length) (cap := c) (fun e => .inr (by rw [List.length_map]; omega))
  rw [List.take_of_length_le (by rw [List.length_drop, List.length_map]; omega), ← List.map_drop] at h2
  exact h2
theorem chsC_snoc (qs : List ChZ) (c : ChZ) : chsC (qs ++ [c]) = chsC qs ++ chC c := by rw [chsC_append]; rfl

set_option maxRecDepth 100000 in
set_option maxHeartbeats 4000000 in
theorem some37_yes (t B M bl : Nat) (L : Option Addr) (lc : Nat) (cs : List ChZ) (w : World) (hT : Tp w t B M) (hl : w.ownsRow bl 64 3 (.slice L cs.length lc) cs.length (chsC cs)) (hn : cs.length ≤ 1000) (hM : M ≤ 281474976710656)
    (htx : ∀ c ∈ cs, Tx w bl c.p ∧ 1 ≤ c.p.zs.length ∧ c.p.zs.length ≤ c.p.cap ∧ c.p.zs.length ≤ 1048576) (hbl : bl ≤ w.heap.size) :
    Calls Try.prog 18 #[.pointer (some ⟨t, 0, none⟩), .slice L cs.length lc, .bool true] w (SomeWRes t B M bl cs w) := by
  have hlt0 := hT.lt
  have hBw : B ≤ w.heap.size := by have h1 := hT.le; omega
  have HL := Lib.hid hl
  have HTl := Lib.hid hlt0
  have HTX := Lib.hid htx
  have HBL := Lib.hid hbl
  have HNt := Lib.hid (fun (i : Nat) (hi : (Value.slice L cs.length lc).ownBlock = some i) (h : At t i) => (show False from by
    obtain ⟨_, _, _, _, hBt, _⟩ := hT.ex
    have h2 : i = t := h
    subst h2
    exact own_blk_ne hl hBt (by decide) hi))
  clear hl htx hbl
  go_enter Try.func18, Try.ntmps18
  go_wp2_with fail
  go_loopw [7, 8] (fun v i wr => ∃ (k : Nat) (qs : List ChZ) (A : Option Addr) (cap : Nat), k ≤ cs.length ∧ i = .int .i64 k ∧ v = .slice A qs.length cap ∧ qs.length ≤ k ∧ Hid (∀ q ∈ qs, q ∈ cs ∨ WrongC cs q) ∧ wr.ownsRow w.heap.size 64 3 (.slice A qs.length cap) qs.length (chsC qs) ∧ Hid (∀ q ∈ qs, Tx wr bl q.p ∧ q.p.zs.length ≤ q.p.cap) ∧ Hid (∀ c ∈ cs, Tx wr bl c.p) ∧ Tp wr t B (M + 2 * k) ∧ Ch (At t) w wr) (fun _ i _ => cs.length - (intOf i).toNat)
  case atStart => exact ⟨0, [], none, 0, Nat.zero_le _, rfl, rfl, Nat.le_refl _, Lib.hid (fun q hq => (by cases hq)), World.ownsRow_nil _ _ _ _, Lib.hid (fun q hq => (by cases hq)), Lib.hid (fun c hc => (HTX.out c hc).1), hT, Ch.refl _ _⟩
  case round =>
    clear hT
    obtain ⟨k, qs, A, cap, hk, rfl, rfl, hqk, HQ, hown, HQT, HCT, hT, hch⟩ := hrel
    by_cases hlt : k < cs.length
    · have HNBt := Lib.hid (tape_noBytes' hT)
      go_wp2_with fail
      refine (tapeNext_any _ _ _ 4 _ hT (by omega) (by omega)).mono ?_
      rintro e w2 ⟨x, rfl, hx, hT2, hch2⟩
      have y2 : x < 4 := by omega
      have hnot : ∀ {base : Nat} {v : Value} {n : Nat} {xs : List Value}, wr.ownsRow base 64 3 v n xs → w2.ownsRow base 64 3 v n xs := fun ho => own_ch ho hch2 (fun i hi h => by
        obtain ⟨_, _, _, _, hBt, _⟩ := hT.ex
        have h2 : i = t := h
        subst h2
        exact own_blk_ne ho hBt (by decide) hi)
      have hown2 := hnot hown
      have hl2 := own_ch HL.out (hch.trans hch2) (fun i hi h => HNt.out i hi h)
      have HL2 := Lib.hid hl2
      have HQT2 : Hid (∀ q ∈ qs, Tx w2 bl q.p ∧ q.p.zs.length ≤ q.p.cap) := Lib.hid (fun q hq => ⟨(HQT.out q hq).1.ch hch2 HNBt.out, (HQT.out q hq).2⟩)
      have HCT2 : Hid (∀ c ∈ cs, Tx w2 bl c.p) := Lib.hid (fun q hq => (HCT.out q hq).ch hch2 HNBt.out)
      obtain ⟨g, rfl, hgb, hgl⟩ := own_some hl2 (Nat.lt_of_le_of_lt (Nat.zero_le _) hlt)
      obtain ⟨ad, hA, hbl2, d0, d1, d2⟩ := chs_at (own_row hl2) hlt
      have hgw : g < w.heap.size := (HL.out.lt g rfl).2
      injection hA with hA
      subst hA
      simp only [Addr.add_lit, Nat.zero_add] at d0 d1 d2
      have hmem := List.getElem_mem hlt
      have hch3 := hch.trans hch2
      have hs2 := hch3.size
      clear hnot hown hT hch hch2 hx hl2 HQT HCT HNBt
      have hx4 : x = 0 ∨ x = 1 ∨ x = 2 ∨ x = 3 := by omega
      have HCx := Lib.hid (HTX.out _ hmem)
      have HCr := Lib.hid (HCT2.out _ hmem)
      generalize hc : cs[k] = c at *
      have HC := Lib.hid hc
      clear hc
      obtain ⟨⟨j1, j2⟩, bA, bc, zs⟩ := c
      simp only at d0 d1 d2 HCx
      have HMem := Lib.hid hmem
      clear hmem
      rcases hx4 with rfl | rfl | rfl | rfl
      case inr.inr.inr =>
        clear d0 d1 d2
        go_wp2_with fail
        go_roundw
        case rel => exact ⟨k + 1, qs, A, cap, by omega, by go_num, rfl, by omega, HQ, hown2, HQT2, HCT2, hT2.more (by omega), hch3⟩
        case measure => simp [intOf]; omega
      case inr.inr.inl =>
        obtain ⟨hz1, hz2, hz3⟩ := HCx.out.2
        obtain ⟨adb, rfl⟩ : ∃ adb, bA = some adb := by
          rcases HCr.out with h | ⟨adb, _, _, h, _⟩
          · simp only at h; rw [h] at hz1; simp at hz1
          · exact ⟨adb, h⟩
        have HHz := Lib.hid hz2
        have hz1I : (1 : Int) ≤ (zs.length : Int) := by omega
        have hz2I : (1 : Int) ≤ (bc : Int) := by omega
        have hot : ∀ i, (Value.slice A qs.length cap).ownBlock = some i → i ≠ t := fun i hi h => by
          obtain ⟨_, _, _, _, hBt, _⟩ := hT2.ex
          subst h
          exact own_blk_ne hown2 hBt (by decide) hi
        have HOT := Lib.hid hot
        have hns : ¬ (fun i => i = t ∨ (Value.slice A qs.length cap).ownBlock = some i) g := fun h => h.elim (fun h => by
            subst h
            exact HNt.out g rfl rfl) (fun h => by have := own_lt hown2 _ h; omega)
        clear hot hz2
        go_wp2_with fail
        refine wp_region_cls (Ch (fun i => i = t ∨ (Value.slice A qs.length cap).ownBlock = some i) w2) 20 (by kernel_rfl) ?_
        have hc0 := (Ch.refl (fun i => i = t ∨ (Value.slice A qs.length cap).ownBlock = some i) w2).drew
        refine AllC.head 0 7 (fuel := 14) (by first | exact fun h k => Grew.trans h k | exact fun h k => cls_grew h k) (hc0) (by rfl) (by kernel_rfl) ?_
        simp only [List.take_succ_cons, List.take_zero, List.drop_succ_cons, List.drop_zero]
        repeat (first
          | (refine HeadC.val (by rfl) ?_
             apply Exists.intro
             refine ⟨fun w' hw' => ?_, ?_⟩
             · (have hf_0 := hw'.cell d0 hns; have hf_1 := hw'.cell d1 hns; (go_simp) <;> (try go_ints) <;> with_reducible rfl)
             try simp only [Act.put, List.setIfInBounds_toArray, List.set_cons_zero, List.set_cons_succ])
          | (refine HeadC.shut (by rfl) ?_
             try simp only [Act.put, List.setIfInBounds_toArray, List.set_cons_zero, List.set_cons_succ]))
        refine HeadC.nil ?_
        refine AllC.head 10 6 (fuel := 8) (by first | exact fun h k => Grew.trans h k | exact fun h k => cls_grew h k) (hc0) (by rfl) (by kernel_rfl) ?_
        simp only [List.take_succ_cons, List.take_zero, List.drop_succ_cons, List.drop_zero]
        repeat (first
          | (refine HeadC.val (by rfl) ?_
             apply Exists.intro
             refine ⟨fun w' hw' => ?_, ?_⟩
             · (have hf_0 := hw'.cell d2 hns; (go_simp) <;> (try go_ints) <;> with_reducible rfl)
             try simp only [Act.put, List.setIfInBounds_toArray, List.set_cons_zero, List.set_cons_succ])
          | (refine HeadC.shut (by rfl) ?_
             try simp only [Act.put, List.setIfInBounds_toArray, List.set_cons_zero, List.set_cons_succ]))
        refine HeadC.nil ?_
        refine AllC.one 7 (by kernel_rfl) rfl ?_
        intro wg hg K hK
        go_simp
        have hg1 : Grew w2 wg := (grew_drew w2).trans hg
        refine (tapeNext_any _ _ _ 3 _ (hT2.of hg1) (by omega) (by omega)).mono ?_
        rintro e w5 ⟨x5, rfl, hx5, hT5, hch5⟩
        have y5 : x5 < 3 := by omega
        have hA5 : Ch (At t) w2 w5 := (Ch.of_below hg1).trans hch5
        have hc5 : Ch (fun i => i = t ∨ (Value.slice A qs.length cap).ownBlock = some i) w2 w5 := hA5.mono (fun _ _ h => .inl h)
        refine hK.out _ _ hc5 ?_
        clear hK K hg hg1 hch5 hc0 hx5
        try simp only [Act.put, List.setIfInBounds_toArray, List.set_cons_zero, List.set_cons_succ]
        have hwu : IntKind.u8.wrap (x5 : Int) = (x5 : Int) := by
          have h9 : x5 = 0 ∨ x5 = 1 ∨ x5 = 2 := by omega
          rcases h9 with rfl | rfl | rfl <;> rfl
        refine AllC.head 8 1 (fuel := 6) (by first | exact fun h k => Grew.trans h k | exact fun h k => cls_grew h k) (hc5) (by rfl) (by kernel_rfl) ?_
        simp only [List.take_succ_cons, List.take_zero, List.drop_succ_cons, List.drop_zero]
        repeat (first
          | (refine HeadC.val (by rfl) ?_
             apply Exists.intro
             refine ⟨fun w' hw' => ?_, ?_⟩
             · (have hf_0 := hc5; (go_simp) <;> (try go_ints) <;> with_reducible rfl)
             try simp only [Act.put, List.setIfInBounds_toArray, List.set_cons_zero, List.set_cons_succ])
          | (refine HeadC.shut (by rfl) ?_
             try simp only [Act.put, List.setIfInBounds_toArray, List.set_cons_zero, List.set_cons_succ]))
        refine HeadC.nil ?_
        refine AllC.one 9 (by kernel_rfl) rfl ?_
        intro wg hg K hK
        go_simp
        have hga := hg.trans (grew_alloc wg (.cells #[.int .u8 x5] 5))
        have hO6 := own_lit wg w2.heap.size 5 #[.int .u8 x5] (Nat.le_trans hA5.size hg.size) (by unfold maxLen; simp)
        have hA6 := hA5.next hga
        have hc6 : Ch (fun i => i = t ∨ (Value.slice A qs.length cap).ownBlock = some i) w2 (wg.alloc (.cells #[.int .u8 x5] 5)) := hA6.mono (fun _ _ h => .inl h)
        have hT6 := hT5.of hga
        refine hK.out _ _ hc6 ?_
        clear hK K hg hA5 hc5 hga hT5
        try simp only [Act.put, List.setIfInBounds_toArray, List.set_cons_zero, List.set_cons_succ]
        generalize wg.alloc (.cells #[.int .u8 x5] 5) = w6 at *
        generalize wg.heap.size = g6 at *
        clear wg
        refine AllC.one 16 (by kernel_rfl) rfl ?_
        intro wg hg K hK
        have hA7 := hA6.next hg
        have hO7 := own_below hO6 hg
        have hT7 := hT6.of hg
        have hrc := row_tail (HCr.out.ch hA7 (tape_noBytes' hT2)).row bc HHz.out
        refine step_append_row rfl (.tmp 39) (.tmp 45) rfl w2.heap.size elem_u8 (by rfl) hO7 _ (by rfl) (by rw [List.length_map, List.length_drop, Nat.mul_one]) hrc (ones_u8 _) (by simp only [List.size_toArray, List.length_cons, List.length_nil]; unfold maxLen; omega) (by simp only [List.size_toArray, List.length_cons, List.length_nil]; omega) hA7.size ?_
        intro A8 c8 w8 hown8 hg8 _
        have hA8 : Ch (At t) w2 w8 := hA7.nextNew (Ch.of_own hg8) (fun i hi => .inl (own_lt hO7 i hi))
        have hc8 : Ch (fun i => i = t ∨ (Value.slice A qs.length cap).ownBlock = some i) w2 w8 := hA8.mono (fun _ _ h => .inl h)
        have hT8 := tape_own hT7 hO7 hg8 (by decide) (by omega)
        have e9 : 1 + (zs.length - 1) = zs.length := by omega
        have hown8' : w8.ownsRow w2.heap.size 5 1 (.slice A8 zs.length c8) zs.length (((x5 : Int) :: zs.drop 1).map (.int .u8)) := by
          have h : w8.ownsRow w2.heap.size 5 1 (.slice A8 (1 + (zs.length - 1)) c8) (1 + (zs.length - 1)) (((x5 : Int) :: zs.drop 1).map (.int .u8)) := hown8
          rwa [e9] at h
        have hTxq := (Tx.own hown8').mono (Nat.le_trans HBL.out hs2)
        have hcq := (own_cap hown8').1
        refine hK.out _ _ hc8 ?_
        clear hK K hg hA6 hc6 hT6 hO6 hA7 hO7 hT7 hrc hg8 hown8 hown8'
        try simp only [Act.put, List.setIfInBounds_toArray, List.set_cons_zero, List.set_cons_succ]
        refine AllC.head 17 1 (fuel := 3) (by first | exact fun h k => Grew.trans h k | exact fun h k => cls_grew h k) (hc8) (by rfl) (by kernel_rfl) ?_
        simp only [List.take_succ_cons, List.take_zero, List.drop_succ_cons, List.drop_zero]
        repeat (first
          | (refine HeadC.val (by rfl) ?_
             apply Exists.intro
             refine ⟨fun w' hw' => ?_, ?_⟩
             · (have hf_0 := hc8; (go_simp) <;> (try go_ints) <;> with_reducible rfl)
             try simp only [Act.put, List.setIfInBounds_toArray, List.set_cons_zero, List.set_cons_succ])
          | (refine HeadC.shut (by rfl) ?_
             try simp only [Act.put, List.setIfInBounds_toArray, List.set_cons_zero, List.set_cons_succ]))
        refine HeadC.nil ?_
        refine AllC.one 18 (by kernel_rfl) rfl ?_
        intro wg hg K hK
        go_simp
        have hga := hg.trans (grew_alloc wg (.cells #[.int .u64 j1, .int .i64 j2, .slice A8 zs.length c8] 64))
        have hrow := Blk.row (Blk.new wg 64 #[.int .u64 j1, .int .i64 j2, .slice A8 zs.length c8])
        have hA9 := hA8.next hga
        have hc9 : Ch (fun i => i = t ∨ (Value.slice A qs.length cap).ownBlock = some i) w2 (wg.alloc (.cells #[.int .u64 j1, .int .i64 j2, .slice A8 zs.length c8] 64)) := hA9.mono (fun _ _ h => .inl h)
        have hT9 := hT8.of hga
        have hTx9 := hTxq.of hga
        refine hK.out _ _ hc9 ?_
        clear hK K hg hA8 hc8 hT8 hTxq hga
        try simp only [Act.put, List.setIfInBounds_toArray, List.set_cons_zero, List.set_cons_succ]
        generalize wg.alloc (.cells #[.int .u64 j1, .int .i64 j2, .slice A8 zs.length c8] 64) = w9 at *
        generalize wg.heap.size = g9 at *
        clear wg
        refine AllC.one 19 (by kernel_rfl) rfl ?_
        intro wg hg K hK
        have hA10 := hA9.next hg
        have hO10 := own_ch hown2 hA10 (fun i hi h => HOT.out i hi h)
        have hrow10 := hrow.up hg (Nat.le_refl _)
        have hT10 := hT9.of hg
        have hTx10 := hTx9.of hg
        refine step_append_row rfl (.tmp 30) (.tmp 48) rfl w.heap.size elem_chunk (by rfl) hO10 _ (by rfl) (by rfl) hrow10 (by simp [Value.oneCell']) (by unfold maxLen; omega) (by omega) (Nat.le_trans hs2 hA10.size) ?_
        intro A11 c11 w11 hown11 hg11 _
        have hnb := own_noBytes hO10 (by decide)
        have hc11 := Ch.of_own hg11
        have hcS : Ch (fun i => i = t ∨ (Value.slice A qs.length cap).ownBlock = some i) w2 w11 := (hA10.mono (fun _ _ h => .inl h)).trans (hc11.mono (fun _ _ h => .inr h))
        have hT11 := tape_own hT10 hO10 hg11 (by decide) hBw
        have hch11 : Ch (At t) w w11 := (hch3.trans hA10).nextNew hc11 (fun i hi => .inl (own_lt hO10 i hi))
        have hTx11 := hTx10.ch hc11 hnb
        have hQT11 : ∀ q ∈ qs, Tx w11 bl q.p ∧ q.p.zs.length ≤ q.p.cap := fun q hq => ⟨((HQT2.out q hq).1.ch hA10 (tape_noBytes' hT2)).ch hc11 hnb, (HQT2.out q hq).2⟩
        have hCT11 : ∀ c ∈ cs, Tx w11 bl c.p := fun c hc => ((HCT2.out c hc).ch hA10 (tape_noBytes' hT2)).ch hc11 hnb
        refine hK.out _ _ hcS ?_
        clear hK K hg hA9 hc9 hT9 hTx9 hrow hA10 hO10 hrow10 hT10 hTx10 hnb hc11 hcS hg11
        try simp only [Act.put, List.setIfInBounds_toArray, List.set_cons_zero, List.set_cons_succ]
        refine AllC.tail 20 (by rfl) (by kernel_rfl) ?_
        intro wt hwt
        simp only [List.drop_succ_cons, List.drop_zero]
        have hlq : ((x5 : Int) :: zs.drop 1).length = zs.length := by rw [List.length_cons, List.length_drop]; omega
        have HO12 : Hid (wt.ownsRow w.heap.size 64 3 (.slice A11 (qs.length + 1) c11) (qs.length + 1) (chsC (qs ++ [⟨(j1, j2), A8, c8, (x5 : Int) :: zs.drop 1⟩]))) := Lib.hid (by
          rw [chsC_snoc]
          have h := own_below hown11 hwt
          rw [← hlq] at h
          exact h)
        have HQT12 : Hid (∀ q ∈ qs ++ [(⟨(j1, j2), A8, c8, (x5 : Int) :: zs.drop 1⟩ : ChZ)], Tx wt bl q.p ∧ q.p.zs.length ≤ q.p.cap) := Lib.hid (fun q hq => by
          rcases List.mem_append.1 hq with h | h
          · exact ⟨(hQT11 q h).1.of hwt, (hQT11 q h).2⟩
          · rw [List.mem_singleton] at h; subst h; exact ⟨hTx11.of hwt, by simp only; rw [hlq]; exact hcq⟩)
        have HCT12 : Hid (∀ c ∈ cs, Tx wt bl c.p) := Lib.hid (fun c hc => (hCT11 c hc).of hwt)
        have HQ12 : Hid (∀ q ∈ qs ++ [(⟨(j1, j2), A8, c8, (x5 : Int) :: zs.drop 1⟩ : ChZ)], q ∈ cs ∨ WrongC cs q) := Lib.hid (fun q hq => by
          rcases List.mem_append.1 hq with h | h
          · exact HQ.out q h
          · rw [List.mem_singleton] at h; subst h; exact .inr ⟨_, HMem.out, x5, y5, rfl, rfl⟩)
        have hT12 := hT11.of hwt
        have hch12 := hch11.next hwt
        clear hown11 hwt hown2 hT2 hch3 hch11 hT11 hTx11 hQT11 hCT11 hlq hns d0 d1 d2
        go_wp2_with fail
        go_roundw
        case rel => exact ⟨k + 1, qs ++ [⟨(j1, j2), A8, c8, (x5 : Int) :: zs.drop 1⟩], A11, c11, by omega, by go_num, by rw [List.length_append]; rfl, by rw [List.length_append, List.length_singleton]; omega, HQ12, by rw [List.length_append]; exact HO12.out, HQT12, HCT12, hT12.more (by omega), hch12⟩
        case measure => simp [intOf]; omega
      all_goals
        have hga := grew_alloc w2 (.cells #[.int .u64 j1, .int .i64 j2, .slice bA zs.length bc] 64)
        have HX : Hid (∀ (A8 : Option Addr) (c8 : Nat) (w8 : World), w8.ownsRow w.heap.size 64 3 (.slice A8 (qs.length + 1) c8) (qs.length + 1) (chsC qs ++ chC ⟨(j1, j2), bA, bc, zs⟩) → (w2.alloc (.cells #[.int .u64 j1, .int .i64 j2, .slice bA zs.length bc] 64)).grownBy w8 (Value.slice A qs.length cap).ownBlock →
            w8.ownsRow w.heap.size 64 3 (.slice A8 (qs.length + 1) c8) (qs.length + 1) (chsC (qs ++ [⟨(j1, j2), bA, bc, zs⟩])) ∧ Hid (∀ q ∈ qs ++ [⟨(j1, j2), bA, bc, zs⟩], Tx w8 bl q.p ∧ q.p.zs.length ≤ q.p.cap) ∧ Hid (∀ c ∈ cs, Tx w8 bl c.p) ∧ Tp w8 t B (M + 2 * (k + 1)) ∧ Ch (At t) w w8) := Lib.hid (fun A8 c8 w8 h1 h2 => by
          have hO := own_below hown2 hga
          have hnb := own_noBytes hO (by decide)
          have hc9 := Ch.of_own h2
          refine ⟨by rw [chsC_snoc]; exact h1, Lib.hid (fun q hq => ?_), Lib.hid (fun c hc => ((HCT2.out c hc).of hga).ch hc9 hnb), (tape_own (hT2.of hga) hO h2 (by decide) hBw).more (by omega), (hch3.next hga).nextNew hc9 (fun i hi => .inl (own_lt hown2 i hi))⟩
          rcases List.mem_append.1 hq with h | h
          · exact ⟨((HQT2.out q h).1.of hga).ch hc9 hnb, (HQT2.out q h).2⟩
          · rw [List.mem_singleton] at h; subst h; exact ⟨(HCr.out.of hga).ch hc9 hnb, HCx.out.2.2.1⟩)
        have HQ8 : Hid (∀ q ∈ qs ++ [(⟨(j1, j2), bA, bc, zs⟩ : ChZ)], q ∈ cs ∨ WrongC cs q) := Lib.hid (fun q hq => by
          rcases List.mem_append.1 hq with h | h
          · exact HQ.out q h
          · rw [List.mem_singleton] at h; subst h; exact .inl HMem.out)
        have hO2 := own_below hown2 hga
        have hs9 : w.heap.size ≤ (w2.alloc (.cells #[.int .u64 j1, .int .i64 j2, .slice bA zs.length bc] 64)).heap.size := Nat.le_trans hs2 hga.size
        clear hga hown2 hch3 hT2
        go_wp2_with (at_builtin; refine wpList_append_row rfl (.tmp 20) (.tmp 25) rfl w.heap.size elem_chunk (by rfl) hO2 _ (by rfl) (by rfl) (Blk.row (Blk.new w2 64 #[.int .u64 j1, .int .i64 j2, .slice bA zs.length bc])) (by simp [Value.oneCell']) (by unfold maxLen; omega) (by omega) hs9 ?_; intro A8 c8 w8 hown9 hg8 _)
        obtain ⟨h1, h2, h3, h4, h5⟩ := HX.out A8 c8 w8 hown9 hg8
        clear hown9 hg8 HX hO2
        go_roundw
        case rel => exact ⟨k + 1, qs ++ [⟨(j1, j2), bA, bc, zs⟩], A8, c8, by omega, by go_num, by rw [List.length_append]; rfl, by rw [List.length_append, List.length_singleton]; omega, HQ8, by rw [List.length_append]; exact h1, h2, h3, h4, h5⟩
        case measure => simp [intOf]; omega
    · obtain rfl : k = cs.length := by omega
      go_wp2_with fail
      go_ret
      exact ⟨A, cap, qs, rfl, hqk, HQ.out, hown, HQT.out, hT, hch⟩

end Go.Proofs.Ytpoiejgoongllaa
