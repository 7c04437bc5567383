/-
  stockyardref25.Concat.
-/
import Derived.Test.YtnjhipnfhapngaaConcat25
import Derived.Test.YtnjhipnfhapngaaTexts
import Derived.Deep.DeepCutAuto
namespace Go.Proofs.Ytnjhipnfhapngaa
set_option linter.unusedVariables false
set_option linter.unusedSimpArgs false
set_option linter.unnecessarySimpa false
open Go.RowKit
attribute [local go_sem ↓] Go.wp_at_zero Go.wp_at_succ

theorem cat_size {n1 n2 : Int} {l1 l2 : List IdZ} (h1 : chkM n1 l1 = 0) (h2 : chkM n2 l2 = 0) (h : ¬ 1024 < l1.length + l2.length) (hs : 1048576 < n1 + n2) : 252 = chkM (n1 + n2) (l1 ++ l2) := by
  obtain ⟨a1, a2, a3, a4⟩ := chkM_zero h1
  obtain ⟨b1, b2, b3, b4⟩ := chkM_zero h2
  have e : sumN (l1 ++ l2) = sumN l1 + sumN l2 := by unfold sumN; rw [List.map_append, List.sum_append]
  exact chkM_size (by rw [List.length_append]; omega) (by rw [List.all_append, a2, b2]; rfl) (by omega)

set_option maxRecDepth 100000 in
set_option maxHeartbeats 4000000 in
theorem refConcat25_any (n1 : Int) (A1 : Option Addr) (c1 : Nat) (l1 : List IdZ) (n2 : Int) (A2 : Option Addr) (c2 B : Nat) (l2 : List IdZ) (w : World) (h1 : Row w B A1 (idsC l1)) (h2 : Row w B A2 (idsC l2)) (hBw : B ≤ w.heap.size) (hm1 : l1.length ≤ 9223372036854775807) (hm2 : l2.length ≤ 9223372036854775807) :
    Calls Try.prog 47 #[.agg #[.int .i64 n1, .slice A1 l1.length c1], .agg #[.int .i64 n2, .slice A2 l2.length c2]] w (CatRes n1 l1 n2 l2 w) := by
  have gA := grew_alloc w (.cells #[.int .i64 n1, .slice A1 l1.length c1] 31)
  have hA := Blk.new w 31 #[.int .i64 n1, .slice A1 l1.length c1]
  have z1 : (w.alloc (.cells #[.int .i64 n1, .slice A1 l1.length c1] 31)).heap.size = w.heap.size + 1 := by simp
  generalize hw0 : w.alloc (.cells #[.int .i64 n1, .slice A1 l1.length c1] 31) = w0 at gA hA z1
  have gB := grew_alloc w0 (.cells #[.int .i64 n2, .slice A2 l2.length c2] 31)
  have hB := Blk.new w0 31 #[.int .i64 n2, .slice A2 l2.length c2]
  have z2 : (w0.alloc (.cells #[.int .i64 n2, .slice A2 l2.length c2] 31)).heap.size = w.heap.size + 2 := by simp [z1]
  rw [z1] at hB
  generalize hw1 : w0.alloc (.cells #[.int .i64 n2, .slice A2 l2.length c2] 31) = w1 at gB hB z2
  have gC := grew_alloc w1 (.cells #[.int .i64 0, .slice none 0 0] 31)
  have hR := Blk.new w1 31 #[.int .i64 0, .slice none 0 0]
  rw [z2] at hR
  replace hA := (hA.of gB).of gC
  replace hB := hB.of gC
  have gAll := (gA.trans gB).trans gC
  have z3 : (w1.alloc (.cells #[.int .i64 0, .slice none 0 0] 31)).heap.size = w.heap.size + 3 := by simp [z2]
  have hr1 := h1.below gAll hBw
  have hr2 := h2.below gAll hBw
  have hB1 := Nat.le_trans hBw gAll.size
  subst hw1
  subst hw0
  clear gA gB gC z1 z2 h1 h2
  have a0 := (hA.cell 0).trans (show _ = some (.int .i64 n1) from rfl)
  have a1 := (hA.cell 1).trans (show _ = some (.slice A1 l1.length c1) from rfl)
  go_enter Try.func47, Try.ntmps47
  go_upto_region 1 with (fail)
  generalize ((w.alloc (.cells #[.int .i64 n1, .slice A1 l1.length c1] 31)).alloc (.cells #[.int .i64 n2, .slice A2 l2.length c2] 31)).alloc (.cells #[.int .i64 0, .slice none 0 0] 31) = w2 at *
  generalize hgc : w.heap.size = gc at *
  have HGc := Lib.hid hgc
  clear hgc
  go_wp2_with fail
  refine (refCheck25_any n1 A1 c1 B l1 w2 hr1 hB1 hm1).mono ?_
  rintro e w3 ⟨rfl, hb⟩
  replace hA := hA.of hb
  replace hB := hB.of hb
  replace hR := hR.of hb
  replace hr1 := hr1.up hb hB1
  replace hr2 := hr2.up hb hB1
  replace hB1 := Nat.le_trans hB1 hb.size
  replace gAll := Grew.trans gAll hb
  clear hb
  clear a0 a1
  by_cases e1 : chkM n1 l1 = 0
  rotate_left
  · have hne : (chkM n1 l1 != 0) = true := by rw [bne_iff_ne]; exact e1
    have HW := Lib.hid (cat_e1 (n2 := n2) (l2 := l2) e1)
    clear e1
    generalize chkM n1 l1 = er at *
    have r0 := (hR.cell 0).trans (show _ = some (.int .i64 0) from rfl)
    have r1 := (hR.cell 1).trans (show _ = some (.slice none 0 0) from rfl)
    have f0 := hR.frozen 0
    have f1 := hR.frozen 1
    have hrl := hR.lt
    go_wp2_with fail
    have hk4 := ((Ch.refl (At (gc + 2)) w3).set_at 0 (.int .i64 0)).set_at 1 (.slice none 0 0)
    have HE := Lib.hid (HW.out)
    refine bodyPost_ret (v := .tuple #[.agg #[.int .i64 0, .slice none 0 0], .int .i64 er]) ?_ rfl (catRes_err HE.out.1 HE.out.2 (cat_below gAll HGc.out hk4))
    simp [results, Try.results47, go_sem, r0, r1]
  have E1 := Lib.hid e1
  rw [e1]
  clear e1
  have b0 := (hB.cell 0).trans (show _ = some (.int .i64 n2) from rfl)
  have b1 := (hB.cell 1).trans (show _ = some (.slice A2 l2.length c2) from rfl)
  go_wp2_with fail
  refine (refCheck25_any n2 A2 c2 B l2 w3 hr2 hB1 hm2).mono ?_
  rintro e w4 ⟨rfl, hb⟩
  replace hA := hA.of hb
  replace hB := hB.of hb
  replace hR := hR.of hb
  replace hr1 := hr1.up hb hB1
  replace hr2 := hr2.up hb hB1
  replace hB1 := Nat.le_trans hB1 hb.size
  replace gAll := Grew.trans gAll hb
  clear hb
  clear b0 b1
  by_cases e2 : chkM n2 l2 = 0
  rotate_left
  · have hne : (chkM n2 l2 != 0) = true := by rw [bne_iff_ne]; exact e2
    have HW := Lib.hid (cat_e2 E1.out e2)
    clear e2
    generalize chkM n2 l2 = er at *
    have r0 := (hR.cell 0).trans (show _ = some (.int .i64 0) from rfl)
    have r1 := (hR.cell 1).trans (show _ = some (.slice none 0 0) from rfl)
    have f0 := hR.frozen 0
    have f1 := hR.frozen 1
    have hrl := hR.lt
    go_wp2_with fail
    have hk4 := ((Ch.refl (At (gc + 2)) w4).set_at 0 (.int .i64 0)).set_at 1 (.slice none 0 0)
    have HE := Lib.hid (HW.out)
    refine bodyPost_ret (v := .tuple #[.agg #[.int .i64 0, .slice none 0 0], .int .i64 er]) ?_ rfl (catRes_err HE.out.1 HE.out.2 (cat_below gAll HGc.out hk4))
    simp [results, Try.results47, go_sem, r0, r1]
  have E2 := Lib.hid e2
  rw [e2]
  clear e2
  obtain ⟨q1, q2⟩ := cat_bd E1.out E2.out
  have a0 := (hA.cell 0).trans (show _ = some (.int .i64 n1) from rfl)
  have a1 := (hA.cell 1).trans (show _ = some (.slice A1 l1.length c1) from rfl)
  have b0 := (hB.cell 0).trans (show _ = some (.int .i64 n2) from rfl)
  have b1 := (hB.cell 1).trans (show _ = some (.slice A2 l2.length c2) from rfl)
  have hw4 := gAll.size
  have hRl4 := hR.lt
  go_upto_region 7 with (fail)
  go_cut [8] (fun s8 wx => ∃ (gx : Nat) (Ax : Option Addr) (cx : Nat), s8 = .pointer (some ⟨gx, 0, none⟩) ∧ Blk wx gx 31 #[.int .i64 (n1 + n2), .slice Ax (l1.length + l2.length) cx] ∧ wx.ownsRow w4.heap.size 51 2 (.slice Ax (l1.length + l2.length) cx) (l1.length + l2.length) (idsC (l1 ++ l2)) ∧ w4.heap.size ≤ gx ∧ Grew w4 wx)
  case first =>
    refine wp_region_g 13 (by kernel_rfl) ?_
    have hgW : Grew w4 w4.drew := grew_drew _
    refine AllC.head 0 7 (fuel := 7) (by first | exact fun h k => Grew.trans h k | exact fun h k => cls_grew h k) (hgW) (by rfl) (by kernel_rfl) ?_
    simp only [List.take_succ_cons, List.take_zero, List.drop_succ_cons, List.drop_zero]
    repeat (first
      | (refine HeadC.val (by rfl) ?_
         apply Exists.intro
         refine ⟨fun w' hw' => ?_, ?_⟩
         · (have hf_0 := cell_up hw' a0; have hf_1 := cell_up hw' a1; have hf_2 := cell_up hw' b0; have hf_3 := cell_up hw' b1; (go_simp) <;> (try go_ints) <;> with_reducible rfl)
         try simp only [Act.put, List.setIfInBounds_toArray, List.set_cons_zero, List.set_cons_succ])
      | (refine HeadC.shut (by rfl) ?_
         try simp only [Act.put, List.setIfInBounds_toArray, List.set_cons_zero, List.set_cons_succ]))
    refine HeadC.nil ?_
    refine AllC.head 8 2 (fuel := 5) (by first | exact fun h k => Grew.trans h k | exact fun h k => cls_grew h k) (hgW) (by rfl) (by kernel_rfl) ?_
    simp only [List.take_succ_cons, List.take_zero, List.drop_succ_cons, List.drop_zero]
    repeat (first
      | (refine HeadC.val (by rfl) ?_
         apply Exists.intro
         refine ⟨fun w' hw' => ?_, ?_⟩
         · (have hf_0 := cell_up hw' a0; have hf_1 := cell_up hw' a1; have hf_2 := cell_up hw' b0; have hf_3 := cell_up hw' b1; (go_simp) <;> (try go_ints) <;> with_reducible rfl)
         try simp only [Act.put, List.setIfInBounds_toArray, List.set_cons_zero, List.set_cons_succ])
      | (refine HeadC.shut (by rfl) ?_
         try simp only [Act.put, List.setIfInBounds_toArray, List.set_cons_zero, List.set_cons_succ]))
    refine HeadC.nil ?_
    refine AllC.both [7, 12] (by kernel_rfl) (by simp) ?_
    intro wg hg i hi
    simp only [List.mem_cons, List.not_mem_nil, or_false] at hi
    rcases hi with rfl | rfl
    · refine ⟨_, rfl, fun K hK => ?_⟩
      have hgg := hgW.trans hg
      refine step_append_row rfl (.const (.slice none 0 0)) (.tmp 28) rfl w4.heap.size elem_id (by rfl) (World.ownsRow_nil _ _ _ _) B (by rfl) (idsC_len l1) (hr1.up hgg hB1) (ones_ids l1) (by unfold maxLen; omega) (by omega) hgg.size ?_
      intro A7 c7 w7 hown7 hg7 _
      rw [List.nil_append] at hown7
      simp only [Nat.zero_add] at hown7 ⊢
      have hga : Grew wg w7 := grew_nil hg7
      replace hgW : Grew w4 w7 := hgg.trans hga
      refine hK.out _ _ hgW ?_
      clear hK K hg hga hg7 hgg
      try simp only [Act.put, List.setIfInBounds_toArray, List.set_cons_zero, List.set_cons_succ]
      refine AllC.both [10, 12] (by kernel_rfl) (by simp) ?_
      intro wg hg i hi
      simp only [List.mem_cons, List.not_mem_nil, or_false] at hi
      rcases hi with rfl | rfl
      · refine ⟨_, rfl, fun K hK => ?_⟩
        have hgg := hgW.trans hg
        replace hown7 := own_below hown7 (hg)
        refine step_append_row rfl (.tmp 29) (.tmp 31) rfl w4.heap.size elem_id (by rfl) hown7 B (by rfl) (idsC_len l2) (hr2.up hgg hB1) (ones_ids l2) (by unfold maxLen; omega) (by omega) hgg.size ?_
        intro A8 c8 w8 hown8 hg8 _
        rw [← idsC_append] at hown8
        replace hgW : Grew w4 w8 := Below.trans (B := w4.heap.size) hgg ((Ch.of_own hg8).below hgg.size (fun i hi => own_lt hown7 i hi))
        refine hK.out _ _ hgW ?_
        clear hK K hg hg8 hgg hown7
        try simp only [Act.put, List.setIfInBounds_toArray, List.set_cons_zero, List.set_cons_succ]
        refine AllC.head 11 1 (fuel := 2) (by first | exact fun h k => Grew.trans h k | exact fun h k => cls_grew h k) (hgW) (by rfl) (by kernel_rfl) ?_
        simp only [List.take_succ_cons, List.take_zero, List.drop_succ_cons, List.drop_zero]
        repeat (first
          | (refine HeadC.val (by rfl) ?_
             apply Exists.intro
             refine ⟨fun w' hw' => ?_, ?_⟩
             · ((go_simp) <;> (try go_ints) <;> with_reducible rfl)
             try simp only [Act.put, List.setIfInBounds_toArray, List.set_cons_zero, List.set_cons_succ])
          | (refine HeadC.shut (by rfl) ?_
             try simp only [Act.put, List.setIfInBounds_toArray, List.set_cons_zero, List.set_cons_succ]))
        refine HeadC.nil ?_
        refine AllC.one 12 (by kernel_rfl) rfl ?_
        intro wg hg K hK
        go_simp
        have hga := hg.trans (grew_alloc wg (.cells #[.int .i64 0, .slice none 0 0] 31))
        replace hown8 := own_below hown8 (hga)
        have hMn := Blk.new wg 31 #[.int .i64 0, .slice none 0 0]
        have hgm : w4.heap.size ≤ wg.heap.size := (hgW.trans hg).size
        replace hgW : Grew w4 (wg.alloc (.cells #[.int .i64 0, .slice none 0 0] 31)) := hgW.trans hga
        refine hK.out _ _ hgW ?_
        clear hK K hg hga
        try simp only [Act.put, List.setIfInBounds_toArray, List.set_cons_zero, List.set_cons_succ]
        generalize wg.alloc (.cells #[.int .i64 0, .slice none 0 0] 31) = wm at *
        generalize wg.heap.size = gm at *
        clear wg
        refine AllC.tail 13 (by rfl) (by kernel_rfl) ?_
        intro wt hwt
        simp only [List.drop_succ_cons, List.drop_zero]
        replace hMn := hMn.of hwt
        replace hown8 := own_below hown8 hwt
        replace hgW := hgW.trans hwt
        clear hwt
        have q0 := (hMn.cell 0).trans (show _ = some (.int .i64 0) from rfl)
        have q1 := (hMn.cell 1).trans (show _ = some (.slice none 0 0) from rfl)
        have f0 := hMn.frozen 0
        have f1 := hMn.frozen 1
        have hml := hMn.lt
        go_wp2_with fail
        go_meet
        have hk4 := ((Ch.refl (At gm) wt).set_at 0 (.int .i64 (n1 + n2))).set_at 1 (.slice A8 (l1.length + l2.length) c8)
        exact ⟨gm, A8, c8, rfl, (hMn.set_ 0 (.int .i64 (n1 + n2))).set_ 1 (.slice A8 (l1.length + l2.length) c8), own_ch hown8 hk4 (fun i hi h => own_blk_ne hown8 hMn (by decide) (by rw [hi]; exact congrArg some h)), hgm, Below.trans (B := w4.heap.size) hgW (hk4.below hgW.size (fun i hi => by have h' : i = gm := hi; omega))⟩
      · refine ⟨_, rfl, fun K hK => ?_⟩
        go_simp
        have hga := hg.trans (grew_alloc wg (.cells #[.int .i64 0, .slice none 0 0] 31))
        replace hown7 := own_below hown7 (hga)
        have hMn := Blk.new wg 31 #[.int .i64 0, .slice none 0 0]
        have hgm : w4.heap.size ≤ wg.heap.size := (hgW.trans hg).size
        replace hgW : Grew w4 (wg.alloc (.cells #[.int .i64 0, .slice none 0 0] 31)) := hgW.trans hga
        refine hK.out _ _ hgW ?_
        clear hK K hg hga
        try simp only [Act.put, List.setIfInBounds_toArray, List.set_cons_zero, List.set_cons_succ]
        generalize wg.alloc (.cells #[.int .i64 0, .slice none 0 0] 31) = wm at *
        generalize wg.heap.size = gm at *
        clear wg
        refine AllC.one 10 (by kernel_rfl) rfl ?_
        intro wg hg K hK
        have hgg := hgW.trans hg
        replace hown7 := own_below hown7 (hg)
        replace hMn := hMn.of (hg)
        refine step_append_row rfl (.tmp 29) (.tmp 31) rfl w4.heap.size elem_id (by rfl) hown7 B (by rfl) (idsC_len l2) (hr2.up hgg hB1) (ones_ids l2) (by unfold maxLen; omega) (by omega) hgg.size ?_
        intro A8 c8 w8 hown8 hg8 _
        rw [← idsC_append] at hown8
        replace hMn := hMn.ch (Ch.of_own hg8) (own_blk_ne hown7 hMn (by decide))
        replace hgW : Grew w4 w8 := Below.trans (B := w4.heap.size) hgg ((Ch.of_own hg8).below hgg.size (fun i hi => own_lt hown7 i hi))
        refine hK.out _ _ hgW ?_
        clear hK K hg hg8 hgg hown7
        try simp only [Act.put, List.setIfInBounds_toArray, List.set_cons_zero, List.set_cons_succ]
        refine AllC.head 11 1 (fuel := 1) (by first | exact fun h k => Grew.trans h k | exact fun h k => cls_grew h k) (hgW) (by rfl) (by kernel_rfl) ?_
        simp only [List.take_succ_cons, List.take_zero, List.drop_succ_cons, List.drop_zero]
        repeat (first
          | (refine HeadC.val (by rfl) ?_
             apply Exists.intro
             refine ⟨fun w' hw' => ?_, ?_⟩
             · ((go_simp) <;> (try go_ints) <;> with_reducible rfl)
             try simp only [Act.put, List.setIfInBounds_toArray, List.set_cons_zero, List.set_cons_succ])
          | (refine HeadC.shut (by rfl) ?_
             try simp only [Act.put, List.setIfInBounds_toArray, List.set_cons_zero, List.set_cons_succ]))
        refine HeadC.nil ?_
        refine AllC.tail 13 (by rfl) (by kernel_rfl) ?_
        intro wt hwt
        simp only [List.drop_succ_cons, List.drop_zero]
        replace hMn := hMn.of hwt
        replace hown8 := own_below hown8 hwt
        replace hgW := hgW.trans hwt
        clear hwt
        have q0 := (hMn.cell 0).trans (show _ = some (.int .i64 0) from rfl)
        have q1 := (hMn.cell 1).trans (show _ = some (.slice none 0 0) from rfl)
        have f0 := hMn.frozen 0
        have f1 := hMn.frozen 1
        have hml := hMn.lt
        go_wp2_with fail
        go_meet
        have hk4 := ((Ch.refl (At gm) wt).set_at 0 (.int .i64 (n1 + n2))).set_at 1 (.slice A8 (l1.length + l2.length) c8)
        exact ⟨gm, A8, c8, rfl, (hMn.set_ 0 (.int .i64 (n1 + n2))).set_ 1 (.slice A8 (l1.length + l2.length) c8), own_ch hown8 hk4 (fun i hi h => own_blk_ne hown8 hMn (by decide) (by rw [hi]; exact congrArg some h)), hgm, Below.trans (B := w4.heap.size) hgW (hk4.below hgW.size (fun i hi => by have h' : i = gm := hi; omega))⟩
    · refine ⟨_, rfl, fun K hK => ?_⟩
      go_simp
      have hga := hg.trans (grew_alloc wg (.cells #[.int .i64 0, .slice none 0 0] 31))
      have hMn := Blk.new wg 31 #[.int .i64 0, .slice none 0 0]
      have hgm : w4.heap.size ≤ wg.heap.size := (hgW.trans hg).size
      replace hgW : Grew w4 (wg.alloc (.cells #[.int .i64 0, .slice none 0 0] 31)) := hgW.trans hga
      refine hK.out _ _ hgW ?_
      clear hK K hg hga
      try simp only [Act.put, List.setIfInBounds_toArray, List.set_cons_zero, List.set_cons_succ]
      generalize wg.alloc (.cells #[.int .i64 0, .slice none 0 0] 31) = wm at *
      generalize wg.heap.size = gm at *
      clear wg
      refine AllC.one 7 (by kernel_rfl) rfl ?_
      intro wg hg K hK
      have hgg := hgW.trans hg
      replace hMn := hMn.of (hg)
      refine step_append_row rfl (.const (.slice none 0 0)) (.tmp 28) rfl w4.heap.size elem_id (by rfl) (World.ownsRow_nil _ _ _ _) B (by rfl) (idsC_len l1) (hr1.up hgg hB1) (ones_ids l1) (by unfold maxLen; omega) (by omega) hgg.size ?_
      intro A7 c7 w7 hown7 hg7 _
      rw [List.nil_append] at hown7
      simp only [Nat.zero_add] at hown7 ⊢
      have hga : Grew wg w7 := grew_nil hg7
      replace hMn := hMn.of (hga)
      replace hgW : Grew w4 w7 := hgg.trans hga
      refine hK.out _ _ hgW ?_
      clear hK K hg hga hg7 hgg
      try simp only [Act.put, List.setIfInBounds_toArray, List.set_cons_zero, List.set_cons_succ]
      refine AllC.one 10 (by kernel_rfl) rfl ?_
      intro wg hg K hK
      have hgg := hgW.trans hg
      replace hMn := hMn.of (hg)
      replace hown7 := own_below hown7 (hg)
      refine step_append_row rfl (.tmp 29) (.tmp 31) rfl w4.heap.size elem_id (by rfl) hown7 B (by rfl) (idsC_len l2) (hr2.up hgg hB1) (ones_ids l2) (by unfold maxLen; omega) (by omega) hgg.size ?_
      intro A8 c8 w8 hown8 hg8 _
      rw [← idsC_append] at hown8
      replace hMn := hMn.ch (Ch.of_own hg8) (own_blk_ne hown7 hMn (by decide))
      replace hgW : Grew w4 w8 := Below.trans (B := w4.heap.size) hgg ((Ch.of_own hg8).below hgg.size (fun i hi => own_lt hown7 i hi))
      refine hK.out _ _ hgW ?_
      clear hK K hg hg8 hgg hown7
      try simp only [Act.put, List.setIfInBounds_toArray, List.set_cons_zero, List.set_cons_succ]
      refine AllC.head 11 1 (fuel := 1) (by first | exact fun h k => Grew.trans h k | exact fun h k => cls_grew h k) (hgW) (by rfl) (by kernel_rfl) ?_
      simp only [List.take_succ_cons, List.take_zero, List.drop_succ_cons, List.drop_zero]
      repeat (first
        | (refine HeadC.val (by rfl) ?_
           apply Exists.intro
           refine ⟨fun w' hw' => ?_, ?_⟩
           · ((go_simp) <;> (try go_ints) <;> with_reducible rfl)
           try simp only [Act.put, List.setIfInBounds_toArray, List.set_cons_zero, List.set_cons_succ])
        | (refine HeadC.shut (by rfl) ?_
           try simp only [Act.put, List.setIfInBounds_toArray, List.set_cons_zero, List.set_cons_succ]))
      refine HeadC.nil ?_
      refine AllC.tail 13 (by rfl) (by kernel_rfl) ?_
      intro wt hwt
      simp only [List.drop_succ_cons, List.drop_zero]
      replace hMn := hMn.of hwt
      replace hown8 := own_below hown8 hwt
      replace hgW := hgW.trans hwt
      clear hwt
      have q0 := (hMn.cell 0).trans (show _ = some (.int .i64 0) from rfl)
      have q1 := (hMn.cell 1).trans (show _ = some (.slice none 0 0) from rfl)
      have f0 := hMn.frozen 0
      have f1 := hMn.frozen 1
      have hml := hMn.lt
      go_wp2_with fail
      go_meet
      have hk4 := ((Ch.refl (At gm) wt).set_at 0 (.int .i64 (n1 + n2))).set_at 1 (.slice A8 (l1.length + l2.length) c8)
      exact ⟨gm, A8, c8, rfl, (hMn.set_ 0 (.int .i64 (n1 + n2))).set_ 1 (.slice A8 (l1.length + l2.length) c8), own_ch hown8 hk4 (fun i hi h => own_blk_ne hown8 hMn (by decide) (by rw [hi]; exact congrArg some h)), hgm, Below.trans (B := w4.heap.size) hgW (hk4.below hgW.size (fun i hi => by have h' : i = gm := hi; omega))⟩
  case rest =>
    obtain ⟨gx, Ax, cx, rfl, hMx, hownx, hgx, hgW⟩ := hcut
    obtain ⟨w5, hw5⟩ : ∃ w5, w5 = wc := ⟨_, rfl⟩
    subst hw5
    replace hR := hR.of hgW
    replace gAll := Grew.trans gAll hgW
    clear a0 a1 b0 b1 hgW hr1 hr2 hA hB
    have x0 := (hMx.cell 0).trans (show _ = some (.int .i64 (n1 + n2)) from rfl)
    have x1 := (hMx.cell 1).trans (show _ = some (.slice Ax (l1.length + l2.length) cx) from rfl)
    have HC := refCheck25_any (n1 + n2) Ax cx w5.heap.size (l1 ++ l2) w5 (own_row hownx) (Nat.le_refl _) (by rw [List.length_append]; omega)
    rw [List.length_append] at HC
    have HC := Lib.hid HC
    go_wp2_with fail
    refine HC.out.mono ?_
    clear HC
    rintro e w6 ⟨rfl, hb⟩
    replace hR := hR.of hb
    replace hMx := hMx.of hb
    replace hownx := own_below hownx hb
    replace gAll := Grew.trans gAll hb
    clear hb x0 x1
    have x0 := (hMx.cell 0).trans (show _ = some (.int .i64 (n1 + n2)) from rfl)
    have x1 := (hMx.cell 1).trans (show _ = some (.slice Ax (l1.length + l2.length) cx) from rfl)
    by_cases hc : 1024 < l1.length + l2.length
    · have HW := Lib.hid (cat_e3 E1.out E2.out hc)
      rw [← chkM_count (n := n1 + n2) (l := l1 ++ l2) (by rw [List.length_append]; exact hc)]
      have r0 := (hR.cell 0).trans (show _ = some (.int .i64 0) from rfl)
      have r1 := (hR.cell 1).trans (show _ = some (.slice none 0 0) from rfl)
      have f0 := hR.frozen 0
      have f1 := hR.frozen 1
      have hrl := hR.lt
      go_wp2_with fail
      have hk4 := ((Ch.refl (At (gc + 2)) w6).set_at 0 (.int .i64 0)).set_at 1 (.slice none 0 0)
      have HE := Lib.hid (HW.out)
      refine bodyPost_ret (v := .tuple #[.agg #[.int .i64 0, .slice none 0 0], .int .i64 251]) ?_ rfl (catRes_err HE.out.1 HE.out.2 (cat_below gAll HGc.out hk4))
      simp [results, Try.results47, go_sem, r0, r1]
    by_cases hs : 1048576 < n1 + n2
    · have HW := Lib.hid (cat_e4 E1.out E2.out hc hs)
      rw [← cat_size E1.out E2.out hc hs]
      have r0 := (hR.cell 0).trans (show _ = some (.int .i64 0) from rfl)
      have r1 := (hR.cell 1).trans (show _ = some (.slice none 0 0) from rfl)
      have f0 := hR.frozen 0
      have f1 := hR.frozen 1
      have hrl := hR.lt
      go_wp2_with fail
      have hk4 := ((Ch.refl (At (gc + 2)) w6).set_at 0 (.int .i64 0)).set_at 1 (.slice none 0 0)
      have HE := Lib.hid (HW.out)
      refine bodyPost_ret (v := .tuple #[.agg #[.int .i64 0, .slice none 0 0], .int .i64 252]) ?_ rfl (catRes_err HE.out.1 HE.out.2 (cat_below gAll HGc.out hk4))
      simp [results, Try.results47, go_sem, r0, r1]
    have HW := Lib.hid (cat_ok E1.out E2.out hc hs)
    rw [HW.out.2.2]
    have r0 := (hR.cell 0).trans (show _ = some (.int .i64 0) from rfl)
    have r1 := (hR.cell 1).trans (show _ = some (.slice none 0 0) from rfl)
    have f0 := hR.frozen 0
    have f1 := hR.frozen 1
    have hrl := hR.lt
    go_wp2_with fail
    have hk4 := ((Ch.refl (At (gc + 2)) w6).set_at 0 (.int .i64 (n1 + n2))).set_at 1 (.slice Ax (l1.length + l2.length) cx)
    have hown4 := own_ch hownx hk4 (fun i hi h => by have := own_lt hownx i hi; have h' : i = gc + 2 := h; omega)
    refine bodyPost_ret (v := .tuple #[.agg #[.int .i64 (n1 + n2), .slice Ax (l1.length + l2.length) cx], .int .i64 0]) ?_ rfl (catRes_ok HW.out.1 HW.out.2.1 HW.out.2.2 (own_mono hown4 (by have := HGc.out; omega)) (cat_below gAll HGc.out hk4) HGc.out)
    simp [results, Try.results47, go_sem, r0, r1]

end Go.Proofs.Ytnjhipnfhapngaa
