/-
  stockyardlaw25.ManifestSlices returns true.
-/
import Derived.Test.YtnjhipnfhapngaaPre25
namespace Go.Proofs.Ytnjhipnfhapngaa
set_option linter.unusedVariables false
set_option linter.unusedSimpArgs false
set_option linter.unnecessarySimpa false
open Go.RowKit
attribute [local go_sem ↓] Go.wp_at_zero Go.wp_at_succ

theorem LocRes.shape {n : Int} {l : List IdZ} {o : Int} {v : Value} (h : LocRes n l o v) : ∃ a b c : Int, v = .tuple #[.int .i64 a, .int .i64 b, .int .i64 c] := by
  unfold LocRes at h
  split at h
  · obtain ⟨k, _, rfl⟩ := h
    exact ⟨_, _, _, rfl⟩
  · exact ⟨_, _, _, h⟩

set_option maxRecDepth 4000 in
set_option maxHeartbeats 2000000 in
theorem lawMSlices_any (A : Option Addr) (cap : Nat) (ls : List Int) (f t : Int) (w : World) (hr : Row w w.heap.size A (ls.map (.int .i64))) (hz : ∀ z ∈ ls, -9223372036854775808 ≤ z ∧ z ≤ 9223372036854775807) (hm : ls.length ≤ 9223372036854775807) :
    Calls Try.prog 5 #[.slice A ls.length cap, .int .i64 f, .int .i64 t] w fun e w' => e = .returned (.bool true) ∧ Below w.heap.size w w' := by
  have hT := Tp.new (cap := cap) hr (Nat.le_refl _) hz hm
  have g0 := grew_alloc w (.cells #[.slice A ls.length cap, .int .i64 0] 26)
  have hch0 : Ch (At w.heap.size) w (w.alloc (.cells #[.slice A ls.length cap, .int .i64 0] 26)) := Ch.of_below g0
  clear hz g0 hr
  go_enter Try.func5, Try.ntmps5
  go_wp2_with fail
  generalize w.alloc (.cells #[.slice A ls.length cap, .int .i64 0] 26) = w1 at *
  refine (pieces25_any _ _ _ 8 _ hT (by omega) (by omega)).mono ?_
  rintro e w2 ⟨Ap, cp, ps, rfl, hpl, hS, hownp, hTx, hT2, hch⟩
  have hb2 : Grew w w2 := (hch0.trans hch).below (Nat.le_refl _) (fun i hi => by rw [hi]; exact Nat.le_refl _)
  have htl := hT2.lt
  clear hT hch hch0
  have hsm := small_sum hS
  go_wp2_with fail
  refine (refOf25_any Ap cp _ _ ps w2 hownp hTx (fun p hp => (hS p hp).2.2) (by omega) (by have : totP ps ≤ 1073741824 := by omega
                                                                                           exact this)).mono ?_
  rintro e w3 ⟨A2, c2, rfl, hown2, hb⟩
  rw [totP_of]
  have hM := Blk.new w3 31 #[.int .i64 (totP ps : Nat), .slice A2 ps.length c2]
  have gM := grew_alloc w3 (.cells #[.int .i64 (totP ps : Nat), .slice A2 ps.length c2] 31)
  have hgm : ¬ At w.heap.size w3.heap.size := by have := hb.size; show ¬ _ = _; omega
  have h13 := Grew.trans hb gM
  have hb4 := Grew.trans hb2 h13
  have hT4 := hT2.of h13
  have hownp4 := own_below hownp h13
  have hTx4 := hTx.of h13
  have hown4 := own_below hown2 gM
  clear hb gM h13 hb2 hT2 hownp hTx hown2
  go_wp2_with fail
  generalize w3.alloc (.cells #[.int .i64 (totP ps : Nat), .slice A2 ps.length c2] 31) = w4 at *
  generalize w3.heap.size = gm at *
  clear w3
  have m0 := (hM.cell 0).trans (show _ = some (.int .i64 (totP ps : Nat)) from rfl)
  have m1 := (hM.cell 1).trans (show _ = some (.slice A2 ps.length c2) from rfl)
  have n72 : totP ps ≤ 72 := by omega
  clear hTx4 hownp4 hsm
  go_upto_region 3 with (fail)
  refine wp_region_cls (Ch (At w.heap.size) w4) 17 (by kernel_rfl) ?_
  have hc0 := (Ch.refl (At w.heap.size) w4).drew
  refine AllC.head 0 7 (fuel := 11) (by first | exact fun h k => Grew.trans h k | exact fun h k => cls_grew h k) (hc0) (by rfl) (by kernel_rfl) ?_
  simp only [List.take_succ_cons, List.take_zero, List.drop_succ_cons, List.drop_zero]
  repeat (first
    | (refine HeadC.val (by rfl) ?_
       apply Exists.intro
       refine ⟨fun w' hw' => ?_, ?_⟩
       · (have hf_0 := hw'.cell m0 hgm; (go_simp) <;> (try go_ints) <;> with_reducible rfl)
       try simp only [Act.put, List.setIfInBounds_toArray, List.set_cons_zero, List.set_cons_succ])
    | (refine HeadC.shut (by rfl) ?_
       try simp only [Act.put, List.setIfInBounds_toArray, List.set_cons_zero, List.set_cons_succ]))
  refine HeadC.nil ?_
  refine AllC.head 9 4 (fuel := 7) (by first | exact fun h k => Grew.trans h k | exact fun h k => cls_grew h k) (hc0) (by rfl) (by kernel_rfl) ?_
  simp only [List.take_succ_cons, List.take_zero, List.drop_succ_cons, List.drop_zero]
  repeat (first
    | (refine HeadC.val (by rfl) ?_
       apply Exists.intro
       refine ⟨fun w' hw' => ?_, ?_⟩
       · (have hf_0 := hw'.cell m0 hgm; (go_simp) <;> (try go_ints) <;> with_reducible rfl)
       try simp only [Act.put, List.setIfInBounds_toArray, List.set_cons_zero, List.set_cons_succ])
    | (refine HeadC.shut (by rfl) ?_
       try simp only [Act.put, List.setIfInBounds_toArray, List.set_cons_zero, List.set_cons_succ]))
  refine HeadC.nil ?_
  refine AllC.one 7 (by kernel_rfl) rfl ?_
  intro wg hg1 K hK
  go_simp
  have hg' : Grew w4 wg := (grew_drew _).trans hg1
  refine (tapeNext_any _ _ _ _ _ (hT4.of hg') (by omega) (by omega)).mono ?_
  rintro e w5 ⟨x1, rfl, hx1, hT5, hch⟩
  have hc5 : Ch (At w.heap.size) w4 w5 := (Ch.of_below hg').trans hch
  refine hK.out _ _ hc5 ?_
  clear hK K hch hg' hg1 hc0
  try simp only [Act.put, List.setIfInBounds_toArray, List.set_cons_zero, List.set_cons_succ]
  have hx1' : x1 ≤ 73 := by omega
  refine AllC.head 8 1 (fuel := 5) (by first | exact fun h k => Grew.trans h k | exact fun h k => cls_grew h k) (hc5) (by rfl) (by kernel_rfl) ?_
  simp only [List.take_succ_cons, List.take_zero, List.drop_succ_cons, List.drop_zero]
  repeat (first
    | (refine HeadC.val (by rfl) ?_
       apply Exists.intro
       refine ⟨fun w' hw' => ?_, ?_⟩
       · ((go_simp) <;> (try go_ints) <;> with_reducible rfl)
       try simp only [Act.put, List.setIfInBounds_toArray, List.set_cons_zero, List.set_cons_succ])
    | (refine HeadC.shut (by rfl) ?_
       try simp only [Act.put, List.setIfInBounds_toArray, List.set_cons_zero, List.set_cons_succ]))
  refine HeadC.nil ?_
  refine AllC.one 13 (by kernel_rfl) rfl ?_
  intro wg hg1 K hK
  go_simp
  refine (tapeNext_any _ _ _ _ _ (hT5.of hg1) (by omega) (by omega)).mono ?_
  rintro e w6 ⟨x2, rfl, hx2, hT6, hch⟩
  have hc6 : Ch (At w.heap.size) w4 w6 := (hc5.next hg1).trans hch
  refine hK.out _ _ hc6 ?_
  clear hK K hch hg1 hc5
  try simp only [Act.put, List.setIfInBounds_toArray, List.set_cons_zero, List.set_cons_succ]
  have hx2' : x2 ≤ 74 := by omega
  refine AllC.head 14 2 (fuel := 2) (by first | exact fun h k => Grew.trans h k | exact fun h k => cls_grew h k) (hc6) (by rfl) (by kernel_rfl) ?_
  simp only [List.take_succ_cons, List.take_zero, List.drop_succ_cons, List.drop_zero]
  repeat (first
    | (refine HeadC.val (by rfl) ?_
       apply Exists.intro
       refine ⟨fun w' hw' => ?_, ?_⟩
       · ((go_simp) <;> (try go_ints) <;> with_reducible rfl)
       try simp only [Act.put, List.setIfInBounds_toArray, List.set_cons_zero, List.set_cons_succ])
    | (refine HeadC.shut (by rfl) ?_
       try simp only [Act.put, List.setIfInBounds_toArray, List.set_cons_zero, List.set_cons_succ]))
  refine HeadC.nil ?_
  refine AllC.one 16 (by kernel_rfl) rfl ?_
  intro wg hg K hK
  go_simp
  have hl := (Blk.new wg 55 #[.int .i64 f, .int .i64 t, .int .i64 ((x1 : Int) - 1), .int .i64 ((x2 : Int) - 1)]).row
  have hc7 := (hc6.next hg).next (grew_alloc wg (.cells #[.int .i64 f, .int .i64 t, .int .i64 ((x1 : Int) - 1), .int .i64 ((x2 : Int) - 1)] 55))
  refine hK.out _ _ hc7 ?_
  clear hK K hg hc6 hT4 hT5 hT6 hx1 hx2
  try simp only [Act.put, List.setIfInBounds_toArray, List.set_cons_zero, List.set_cons_succ]
  generalize wg.alloc (.cells #[.int .i64 f, .int .i64 t, .int .i64 ((x1 : Int) - 1), .int .i64 ((x2 : Int) - 1)] 55) = w7 at *
  generalize wg.heap.size = gl at *
  generalize (x1 : Int) - 1 = y1 at *
  generalize (x2 : Int) - 1 = y2 at *
  clear hx1' hx2' m0 m1
  refine AllC.tail 17 (by rfl) (by kernel_rfl) ?_
  intro wt hwt
  simp only [List.drop_succ_cons, List.drop_zero]
  have hc8 := hc7.next hwt
  have hb8 : Grew w wt := Below.trans (B := w.heap.size) hb4 (hc8.below hb4.size (fun i hi => by rw [hi]; exact Nat.le_refl _))
  have hown8 := own_ch hown4 hc8 (fun i hi h => by have := own_lt hown4 i hi; have h' : i = w.heap.size := h; omega)
  have hM8 := hM.ch hc8 hgm
  have hl8 := (hl.up hwt (Nat.le_refl _)).more hwt.size
  clear hc7 hc8 hb4 hown4 hM hgm hl hwt htl w7
  have HC : Hid (∀ k : Nat, k < 2 → ∃ a b : Int, ∀ W, Grew wt W → W.cell? ⟨gl, k * 2, none⟩ = some (.int .i64 a) ∧ W.cell? ⟨gl, k * 2 + 1, none⟩ = some (.int .i64 b)) := Lib.hid (fun k hk => by
    have hz : k = 0 ∨ k = 1 := by omega
    rcases hz with rfl | rfl
    · refine ⟨f, t, fun W h => ?_⟩
      obtain ⟨ad, e, _, hc⟩ := (hl8.up h (Nat.le_refl _)).at_ (k := 0) (by simp)
      obtain ⟨ad', e', _, hc'⟩ := (hl8.up h (Nat.le_refl _)).at_ (k := 1) (by simp)
      injection e with e; injection e' with e'
      subst e e'
      exact ⟨hc, hc'⟩
    · refine ⟨y1, y2, fun W h => ?_⟩
      obtain ⟨ad, e, _, hc⟩ := (hl8.up h (Nat.le_refl _)).at_ (k := 2) (by simp)
      obtain ⟨ad', e', _, hc'⟩ := (hl8.up h (Nat.le_refl _)).at_ (k := 3) (by simp)
      injection e with e; injection e' with e'
      subst e e'
      exact ⟨hc, hc'⟩)
  clear hl8
  have hIL := idsOf_length ps
  go_wp2_with fail
  go_loopw [10] (fun i wr => ∃ k : Nat, k ≤ 2 ∧ i = .int .i64 k ∧ Grew wt wr) (fun i _ => 2 - (intOf i).toNat)
  case atStart => exact ⟨0, by omega, rfl, Grew.refl _⟩
  case round =>
    obtain ⟨k, hk, rfl, hgr⟩ := hrel
    by_cases hlt : k < 2
    · have hk1 : (k : Int) < 2 := by omega
      obtain ⟨a, b, hab⟩ := HC.out k hlt
      obtain ⟨ca, cb⟩ := hab wr hgr
      have hMr := hM8.of hgr
      have hownr := own_below hown8 hgr
      have m0 := (hMr.cell 0).trans (show _ = some (.int .i64 (totP ps : Nat)) from rfl)
      have m1 := (hMr.cell 1).trans (show _ = some (.slice A2 ps.length c2) from rfl)
      have hrI : Row wr wr.heap.size A2 (idsC (idsOf ps)) := own_row hownr
      go_upto_region 7 with (fail)
      refine wp_region_g 16 (by kernel_rfl) ?_
      refine AllC.head 0 11 (fuel := 6) (by first | exact fun h k => Grew.trans h k | exact fun h k => cls_grew h k) (grew_drew _) (by rfl) (by kernel_rfl) ?_
      simp only [List.take_succ_cons, List.take_zero, List.drop_succ_cons, List.drop_zero]
      repeat (first
        | (refine HeadC.val (by rfl) ?_
           apply Exists.intro
           refine ⟨fun w' hw' => ?_, ?_⟩
           · (have hf_0 := cell_up hw' m0; have hf_1 := cell_up hw' m1; have hf_2 := cell_up hw' ca; have hf_3 := cell_up hw' cb; (go_simp) <;> (try go_ints) <;> with_reducible rfl)
           try simp only [Act.put, List.setIfInBounds_toArray, List.set_cons_zero, List.set_cons_succ])
        | (refine HeadC.shut (by rfl) ?_
           try simp only [Act.put, List.setIfInBounds_toArray, List.set_cons_zero, List.set_cons_succ]))
      refine HeadC.nil ?_
      refine AllC.one 11 (by kernel_rfl) rfl ?_
      intro wg hg K hK
      go_simp
      have hg0 : Grew wr wg := (grew_drew _).trans hg
      have HSl := slice25_any (totP ps : Nat) A2 c2 _ (idsOf ps) a b wg (hrI.up hg0 (Nat.le_refl _)) hg0.size (by omega)
      rw [hIL] at HSl
      refine HSl.mono ?_
      clear HSl
      rintro e wa ⟨A3, c3, rfl, hown3, hb⟩
      have hg1 : Grew wr wa := Grew.trans hg0 hb
      refine hK.out _ _ hg1 ?_
      clear hK K hg hg0 hb
      try simp only [Act.put, List.setIfInBounds_toArray, List.set_cons_zero, List.set_cons_succ]
      refine AllC.head 12 4 (fuel := 1) (by first | exact fun h k => Grew.trans h k | exact fun h k => cls_grew h k) (hg1) (by rfl) (by kernel_rfl) ?_
      simp only [List.take_succ_cons, List.take_zero, List.drop_succ_cons, List.drop_zero]
      repeat (first
        | (refine HeadC.val (by rfl) ?_
           apply Exists.intro
           refine ⟨fun w' hw' => ?_, ?_⟩
           · ((go_simp) <;> (try go_ints) <;> with_reducible rfl)
           try simp only [Act.put, List.setIfInBounds_toArray, List.set_cons_zero, List.set_cons_succ])
        | (refine HeadC.shut (by rfl) ?_
           try simp only [Act.put, List.setIfInBounds_toArray, List.set_cons_zero, List.set_cons_succ]))
      refine HeadC.nil ?_
      refine AllC.tail 16 (by rfl) (by kernel_rfl) ?_
      intro wb hwt
      simp only [List.drop_succ_cons, List.drop_zero]
      have hg2 := hg1.trans hwt
      have hown3b := own_below hown3 hwt
      clear hg1 hwt hown3
      have m0b := cell_up hg2 m0
      have m1b := cell_up hg2 m1
      have cab := cell_up hg2 ca
      have cbb := cell_up hg2 cb
      go_upto_region 8 with (fail)
      refine wp_region_g 16 (by kernel_rfl) ?_
      refine AllC.head 0 11 (fuel := 6) (by first | exact fun h k => Grew.trans h k | exact fun h k => cls_grew h k) (grew_drew _) (by rfl) (by kernel_rfl) ?_
      simp only [List.take_succ_cons, List.take_zero, List.drop_succ_cons, List.drop_zero]
      repeat (first
        | (refine HeadC.val (by rfl) ?_
           apply Exists.intro
           refine ⟨fun w' hw' => ?_, ?_⟩
           · (have hf_0 := cell_up hw' m0b; have hf_1 := cell_up hw' m1b; have hf_2 := cell_up hw' cab; have hf_3 := cell_up hw' cbb; (go_simp) <;> (try go_ints) <;> with_reducible rfl)
           try simp only [Act.put, List.setIfInBounds_toArray, List.set_cons_zero, List.set_cons_succ])
        | (refine HeadC.shut (by rfl) ?_
           try simp only [Act.put, List.setIfInBounds_toArray, List.set_cons_zero, List.set_cons_succ]))
      refine HeadC.nil ?_
      refine AllC.one 11 (by kernel_rfl) rfl ?_
      intro wg hg K hK
      go_simp
      have hg0 : Grew wb wg := (grew_drew _).trans hg
      have HSl := refSlice25_any (totP ps : Nat) A2 c2 _ (idsOf ps) a b wg (hrI.up (hg2.trans hg0) (Nat.le_refl _)) (hg2.trans hg0).size (by omega)
      rw [hIL] at HSl
      refine HSl.mono ?_
      clear HSl
      rintro e wa ⟨A4, c4, rfl, hown4, hb⟩
      have hg1 : Grew wb wa := Grew.trans hg0 hb
      refine hK.out _ _ hg1 ?_
      clear hK K hg hg0 hb
      try simp only [Act.put, List.setIfInBounds_toArray, List.set_cons_zero, List.set_cons_succ]
      refine AllC.head 12 4 (fuel := 1) (by first | exact fun h k => Grew.trans h k | exact fun h k => cls_grew h k) (hg1) (by rfl) (by kernel_rfl) ?_
      simp only [List.take_succ_cons, List.take_zero, List.drop_succ_cons, List.drop_zero]
      repeat (first
        | (refine HeadC.val (by rfl) ?_
           apply Exists.intro
           refine ⟨fun w' hw' => ?_, ?_⟩
           · ((go_simp) <;> (try go_ints) <;> with_reducible rfl)
           try simp only [Act.put, List.setIfInBounds_toArray, List.set_cons_zero, List.set_cons_succ])
        | (refine HeadC.shut (by rfl) ?_
           try simp only [Act.put, List.setIfInBounds_toArray, List.set_cons_zero, List.set_cons_succ]))
      refine HeadC.nil ?_
      refine AllC.tail 16 (by rfl) (by kernel_rfl) ?_
      intro wd hwt
      simp only [List.drop_succ_cons, List.drop_zero]
      have hg3 := hg1.trans hwt
      have hgr3 := hgr.trans (hg2.trans hg3)
      have hr3 := own_row (own_below hown3b hg3)
      have hr4 := own_row (own_below hown4 hwt)
      replace m0 := cell_up hg3 m0b
      replace m1 := cell_up hg3 m1b
      replace ca := cell_up hg3 cab
      replace cb := cell_up hg3 cbb
      replace hrI := hrI.up (hg2.trans hg3) (Nat.le_refl _)
      have hws := (hg2.trans hg3).size
      have hsl := slK_len a b (idsOf ps) (idsOf ps).length
      have hl8 : (slL (totP ps : Nat) (idsOf ps) a b).length ≤ 8 := by
        unfold slL
        split
        · omega
        · simp
      clear hown3b hown4 hg1 hg2 hg3 hwt m0b m1b cab cbb hsl
      generalize slL (totP ps : Nat) (idsOf ps) a b = xs at *
      generalize slE (totP ps : Nat) (idsOf ps) a b = er at *
      go_wp2_with fail
      go_loopw [15] (fun j wx => ∃ n : Nat, n ≤ xs.length ∧ j = .int .i64 n ∧ Drawn wd wx) (fun j _ => xs.length - (intOf j).toNat)
      case atStart => exact ⟨0, by omega, rfl, Drawn.refl _⟩
      case round =>
        obtain ⟨n, hn, rfl, hd⟩ := hrel
        by_cases hltn : n < xs.length
        · have hn1 : (n : Int) < xs.length := by omega
          obtain ⟨ad3, rfl, _, d0, d1, d2⟩ := pcs_at (hr3.keep (w' := wr) fun p _ => hd.cell p) hltn
          obtain ⟨ad4, rfl, _, f0, f1, f2⟩ := pcs_at (hr4.keep (w' := wr) fun p _ => hd.cell p) hltn
          generalize xs[n] = z at *
          obtain ⟨z1, z2, z3⟩ := z
          simp only at d0 d1 d2 f0 f1 f2
          go_wp2_with fail
          go_quiet (fail)
          go_wp2
          go_roundw
          case rel => exact ⟨n + 1, by omega, by go_num, hd.drewN _⟩
          case measure => simp [intOf]; omega
        · have hgd : Grew wd wr := hd.below _
          have m0b := cell_up hgd m0
          have m1b := cell_up hgd m1
          have cab := cell_up hgd ca
          have cbb := cell_up hgd cb
          replace hrI := hrI.up hgd hws
          have hws3 := Nat.le_trans hws hgd.size
          have hgr4 := hgr3.trans hgd
          clear hd hgd m0 m1 ca cb hr3 hr4 hgr3 hws
          go_upto_region 16 with (fail)
          refine wp_region_g 13 (by kernel_rfl) ?_
          refine AllC.head 0 6 (fuel := 8) (by first | exact fun h k => Grew.trans h k | exact fun h k => cls_grew h k) (grew_drew _) (by rfl) (by kernel_rfl) ?_
          simp only [List.take_succ_cons, List.take_zero, List.drop_succ_cons, List.drop_zero]
          repeat (first
            | (refine HeadC.val (by rfl) ?_
               apply Exists.intro
               refine ⟨fun w' hw' => ?_, ?_⟩
               · (have hf_0 := cell_up hw' m0b; have hf_1 := cell_up hw' m1b; have hf_2 := cell_up hw' cab; (go_simp) <;> (try go_ints) <;> with_reducible rfl)
               try simp only [Act.put, List.setIfInBounds_toArray, List.set_cons_zero, List.set_cons_succ])
            | (refine HeadC.shut (by rfl) ?_
               try simp only [Act.put, List.setIfInBounds_toArray, List.set_cons_zero, List.set_cons_succ]))
          refine HeadC.nil ?_
          refine AllC.one 6 (by kernel_rfl) rfl ?_
          intro wg hg K hK
          go_simp
          have hg0 : Grew wr wg := (grew_drew _).trans hg
          have HSl := locate25_any (totP ps : Nat) A2 c2 _ (idsOf ps) a wg (hrI.up hg0 hws3) (Nat.le_trans hws3 hg0.size) (by omega)
          rw [hIL] at HSl
          refine HSl.mono ?_
          clear HSl
          rintro e wa ⟨v, rfl, hv, hb⟩
          obtain ⟨p1, p2, p3, rfl⟩ := hv.shape
          have Hv := Lib.hid hv
          have hg1 : Grew wr wa := Grew.trans hg0 hb
          refine hK.out _ _ hg1 ?_
          clear hK K hg hg0 hb hv
          try simp only [Act.put, List.setIfInBounds_toArray, List.set_cons_zero, List.set_cons_succ]
          refine AllC.head 7 6 (fuel := 1) (by first | exact fun h k => Grew.trans h k | exact fun h k => cls_grew h k) (hg1) (by rfl) (by kernel_rfl) ?_
          simp only [List.take_succ_cons, List.take_zero, List.drop_succ_cons, List.drop_zero]
          repeat (first
            | (refine HeadC.val (by rfl) ?_
               apply Exists.intro
               refine ⟨fun w' hw' => ?_, ?_⟩
               · ((go_simp) <;> (try go_ints) <;> with_reducible rfl)
               try simp only [Act.put, List.setIfInBounds_toArray, List.set_cons_zero, List.set_cons_succ])
            | (refine HeadC.shut (by rfl) ?_
               try simp only [Act.put, List.setIfInBounds_toArray, List.set_cons_zero, List.set_cons_succ]))
          refine HeadC.nil ?_
          refine AllC.tail 13 (by rfl) (by kernel_rfl) ?_
          intro wb hwt
          simp only [List.drop_succ_cons, List.drop_zero]
          have hg2 := hg1.trans hwt
          clear hg1 hwt
          replace m0b := cell_up hg2 m0b
          replace m1b := cell_up hg2 m1b
          replace cab := cell_up hg2 cab
          go_upto_region 17 with (fail)
          refine wp_region_g 13 (by kernel_rfl) ?_
          refine AllC.head 0 6 (fuel := 8) (by first | exact fun h k => Grew.trans h k | exact fun h k => cls_grew h k) (grew_drew _) (by rfl) (by kernel_rfl) ?_
          simp only [List.take_succ_cons, List.take_zero, List.drop_succ_cons, List.drop_zero]
          repeat (first
            | (refine HeadC.val (by rfl) ?_
               apply Exists.intro
               refine ⟨fun w' hw' => ?_, ?_⟩
               · (have hf_0 := cell_up hw' m0b; have hf_1 := cell_up hw' m1b; have hf_2 := cell_up hw' cab; (go_simp) <;> (try go_ints) <;> with_reducible rfl)
               try simp only [Act.put, List.setIfInBounds_toArray, List.set_cons_zero, List.set_cons_succ])
            | (refine HeadC.shut (by rfl) ?_
               try simp only [Act.put, List.setIfInBounds_toArray, List.set_cons_zero, List.set_cons_succ]))
          refine HeadC.nil ?_
          refine AllC.one 6 (by kernel_rfl) rfl ?_
          intro wg hg K hK
          go_simp
          have hg0 : Grew wb wg := (grew_drew _).trans hg
          have HSl := refLocate25_any (totP ps : Nat) A2 c2 _ (idsOf ps) a wg (hrI.up (hg2.trans hg0) hws3) (Nat.le_trans hws3 (hg2.trans hg0).size) (by omega)
          rw [hIL] at HSl
          refine HSl.mono ?_
          clear HSl
          rintro e wa ⟨v, rfl, hv, hb⟩
          obtain rfl := hv.det Hv.out
          have hg1 : Grew wb wa := Grew.trans hg0 hb
          refine hK.out _ _ hg1 ?_
          clear hK K hg hg0 hb hv Hv
          try simp only [Act.put, List.setIfInBounds_toArray, List.set_cons_zero, List.set_cons_succ]
          refine AllC.head 7 6 (fuel := 1) (by first | exact fun h k => Grew.trans h k | exact fun h k => cls_grew h k) (hg1) (by rfl) (by kernel_rfl) ?_
          simp only [List.take_succ_cons, List.take_zero, List.drop_succ_cons, List.drop_zero]
          repeat (first
            | (refine HeadC.val (by rfl) ?_
               apply Exists.intro
               refine ⟨fun w' hw' => ?_, ?_⟩
               · ((go_simp) <;> (try go_ints) <;> with_reducible rfl)
               try simp only [Act.put, List.setIfInBounds_toArray, List.set_cons_zero, List.set_cons_succ])
            | (refine HeadC.shut (by rfl) ?_
               try simp only [Act.put, List.setIfInBounds_toArray, List.set_cons_zero, List.set_cons_succ]))
          refine HeadC.nil ?_
          refine AllC.tail 13 (by rfl) (by kernel_rfl) ?_
          intro we hwt
          simp only [List.drop_succ_cons, List.drop_zero]
          have hg5 := hgr4.trans (hg2.trans (hg1.trans hwt))
          clear hg1 hwt hg2 hgr4 m0b m1b cab cbb hrI
          go_wp2_with fail
          go_roundw
          case rel => exact ⟨k + 1, by omega, by go_num, hg5⟩
          case measure => simp [intOf]; omega
    · go_wp2_with fail
      refine (known25_any _).mono ?_
      rintro e wk ⟨rfl, hb⟩
      go_wp2_with fail
      go_ret
      exact ⟨rfl, Grew.trans hb8 (Grew.trans hgr hb)⟩

end Go.Proofs.Ytnjhipnfhapngaa
