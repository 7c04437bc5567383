/-
  stockyardlaw25.ManifestEdits returns true.
-/
import Derived.Test.YtnjhipnfhapngaaKnown25
import Derived.Test.YtnjhipnfhapngaaBuild25
import Derived.Test.YtnjhipnfhapngaaEdit25
import Derived.Deep.DeepCutAuto
import Derived.Test.YtnjhipnfhapngaaBack25
namespace Go.Proofs.Ytnjhipnfhapngaa
set_option linter.unusedVariables false
set_option linter.unusedSimpArgs false
set_option linter.unnecessarySimpa false
open Go.RowKit
attribute [local go_sem ↓] Go.wp_at_zero Go.wp_at_succ


set_option maxRecDepth 4000 in
set_option maxHeartbeats 2000000 in
theorem lawMEdits_any (A : Option Addr) (cap : Nat) (ls : List Int) (w : World) (hr : Row w w.heap.size A (ls.map (.int .i64))) (hz : ∀ z ∈ ls, -9223372036854775808 ≤ z ∧ z ≤ 9223372036854775807) (hm : ls.length ≤ 9223372036854775807) :
    Calls Try.prog 13 #[.slice A ls.length cap] w fun e w' => e = .returned (.bool true) ∧ Below w.heap.size w w' := by
  have hT := Tp.new (cap := cap) hr (Nat.le_refl _) hz hm
  have g0 := grew_alloc w (.cells #[.slice A ls.length cap, .int .i64 0] 26)
  have hch0 : Ch (At w.heap.size) w (w.alloc (.cells #[.slice A ls.length cap, .int .i64 0] 26)) := Ch.of_below g0
  clear hz g0 hr
  go_enter Try.func13, Try.ntmps13
  go_wp2_with fail
  generalize w.alloc (.cells #[.slice A ls.length cap, .int .i64 0] 26) = w1 at *
  refine (cut25_any _ _ _ _ hT (by omega)).mono ?_
  rintro e w2 ⟨c, rfl, hsm, hT2, hch⟩
  have HS := Lib.hid hsm
  have OK := Lib.hid hsm.ok
  have hch2 := hch0.trans hch
  clear hT hch hch0 hsm
  unfold cutV
  have hC := CutAt.new w2 c
  have gC := grew_alloc w2 (.cells #[.int .i64 c.mn, .int .i64 c.mx, .int .i64 c.wn, .int .u64 c.mask] 83)
  have hT3 := hT2.of gC
  have hch3 := hch2.next gC
  have htl := hT2.lt
  clear gC hT2 hch2
  go_wp2_with fail
  generalize w2.alloc (.cells #[.int .i64 c.mn, .int .i64 c.mx, .int .i64 c.wn, .int .u64 c.mask] 83) = w3 at *
  generalize w2.heap.size = gc at *
  clear w2
  have hb3 : Below w.heap.size w w3 := hch3.below (Nat.le_refl _) (fun i hi => by rw [hi]; exact Nat.le_refl _)
  have hne : Hid (¬ At w.heap.size gc) := Lib.hid (by show ¬ gc = _; omega)
  clear hch3
  have htl1 := hT3.lt
  refine (tapeNext_any _ _ _ 60 _ hT3 (by omega) (by omega)).mono ?_
  rintro e w4 ⟨n1, rfl, hx, hT4, hch⟩
  have hn1 : n1 < 60 := by omega
  have HB := Lib.hid (tapeBytes_any _ _ _ n1 3 _ hT4 (by omega) (by omega) (by omega))
  rw [show ((3 : Nat) : Int) = 3 from rfl] at HB
  go_wp2_with fail
  refine HB.out.mono ?_
  clear HB
  rintro e w5 ⟨A1, c1, zs1, rfl, hlen1, hz, hown1, hT6, hch3⟩
  subst hlen1
  have Hz1 := Lib.hid hz
  have hch4 := hch.trans hch3
  have hbs1 : w3.heap.size ≤ w4.heap.size := hch.size
  replace hC := hC.ch hch4 hne.out
  replace hb3 : Below w.heap.size w w5 := Below.trans (B := w.heap.size) hb3 (hch4.below hb3.size (fun i hi => by rw [hi]; exact Nat.le_refl _))
  replace hT3 := hT6
  clear hch hch3 hch4 hz hT4 hT6 hx
  go_wp2_with fail
  have htl2 := hT3.lt
  refine (tapeNext_any _ _ _ 6 _ hT3 (by omega) (by omega)).mono ?_
  rintro e w6 ⟨n2, rfl, hx, hT4, hch⟩
  have hn2 : n2 < 6 := by omega
  have HB := Lib.hid (tapeBytes_any _ _ _ n2 3 _ hT4 (by omega) (by omega) (by omega))
  rw [show ((3 : Nat) : Int) = 3 from rfl] at HB
  go_wp2_with fail
  refine HB.out.mono ?_
  clear HB
  rintro e w7 ⟨A2, c2, zs2, rfl, hlen2, hz, hown2, hT6, hch3⟩
  subst hlen2
  have Hz2 := Lib.hid hz
  have hch4 := hch.trans hch3
  have hbs2 : w5.heap.size ≤ w6.heap.size := hch.size
  replace hC := hC.ch hch4 hne.out
  replace hown1 := own_ch hown1 hch4 (fun b hb hs => by have := own_lt hown1 b hb; have h' : b = w.heap.size := hs; omega)
  replace hb3 : Below w.heap.size w w7 := Below.trans (B := w.heap.size) hb3 (hch4.below hb3.size (fun i hi => by rw [hi]; exact Nat.le_refl _))
  replace hT3 := hT6
  clear hch hch3 hch4 hz hT4 hT6 hx
  go_wp2_with fail
  have htl3 := hT3.lt
  refine (tapeNext_any _ _ _ 6 _ hT3 (by omega) (by omega)).mono ?_
  rintro e w8 ⟨n3, rfl, hx, hT4, hch⟩
  have hn3 : n3 < 6 := by omega
  have HB := Lib.hid (tapeBytes_any _ _ _ n3 3 _ hT4 (by omega) (by omega) (by omega))
  rw [show ((3 : Nat) : Int) = 3 from rfl] at HB
  go_wp2_with fail
  refine HB.out.mono ?_
  clear HB
  rintro e w9 ⟨A3, c3, zs3, rfl, hlen3, hz, hown3, hT6, hch3⟩
  subst hlen3
  have Hz3 := Lib.hid hz
  have hch4 := hch.trans hch3
  have hbs3 : w7.heap.size ≤ w8.heap.size := hch.size
  replace hC := hC.ch hch4 hne.out
  replace hown1 := own_ch hown1 hch4 (fun b hb hs => by have := own_lt hown1 b hb; have h' : b = w.heap.size := hs; omega)
  replace hown2 := own_ch hown2 hch4 (fun b hb hs => by have := own_lt hown2 b hb; have h' : b = w.heap.size := hs; omega)
  replace hb3 : Below w.heap.size w w9 := Below.trans (B := w.heap.size) hb3 (hch4.below hb3.size (fun i hi => by rw [hi]; exact Nat.le_refl _))
  replace hT3 := hT6
  clear hch hch3 hch4 hz hT4 hT6 hx
  go_wp2_with fail
  have htl4 := hT3.lt
  refine (tapeNext_any _ _ _ 30 _ hT3 (by omega) (by omega)).mono ?_
  rintro e w10 ⟨n4, rfl, hx, hT4, hch⟩
  have hn4 : n4 < 30 := by omega
  have HB := Lib.hid (tapeBytes_any _ _ _ n4 3 _ hT4 (by omega) (by omega) (by omega))
  rw [show ((3 : Nat) : Int) = 3 from rfl] at HB
  go_wp2_with fail
  refine HB.out.mono ?_
  clear HB
  rintro e w11 ⟨A4, c4, zs4, rfl, hlen4, hz, hown4, hT6, hch3⟩
  subst hlen4
  have Hz4 := Lib.hid hz
  have hch4 := hch.trans hch3
  have hbs4 : w9.heap.size ≤ w10.heap.size := hch.size
  replace hC := hC.ch hch4 hne.out
  replace hown1 := own_ch hown1 hch4 (fun b hb hs => by have := own_lt hown1 b hb; have h' : b = w.heap.size := hs; omega)
  replace hown2 := own_ch hown2 hch4 (fun b hb hs => by have := own_lt hown2 b hb; have h' : b = w.heap.size := hs; omega)
  replace hown3 := own_ch hown3 hch4 (fun b hb hs => by have := own_lt hown3 b hb; have h' : b = w.heap.size := hs; omega)
  replace hb3 : Below w.heap.size w w11 := Below.trans (B := w.heap.size) hb3 (hch4.below hb3.size (fun i hi => by rw [hi]; exact Nat.le_refl _))
  replace hT3 := hT6
  clear hch hch3 hch4 hz hT4 hT6 hx
  go_wp2_with fail
  have hcap1 := (own_cap hown1).1
  have hcap2 := (own_cap hown2).1
  have hcap3 := (own_cap hown3).1
  have hcap4 := (own_cap hown4).1
  have hr1 := own_row hown1
  have hr2 := own_row hown2
  have hr3 := own_row hown3
  have hr4 := own_row hown4
  clear HS hown1 hown2 hown3 hown4 hT3 hne htl1 htl2 htl3 htl4 hbs1 hbs2 hbs3 hbs4
  obtain ⟨d0, d1, d2, d3, d4⟩ := hC.cells
  go_cut [9, 10, 11] (fun s1 s2 s3 wx => ∃ (gx : Nat) (Ax : Option Addr) (cx : Nat) (Lx : Option Addr) (lx : Nat) (ps : List Part), s1 = .pointer (some ⟨gx, 0, none⟩) ∧ s2 = .slice Lx ps.length lx ∧ s3 = .int .i64 0 ∧ ps.map Part.zs = pcsZ c (zs1 ++ (zs2 ++ zs4)) ∧ Blk wx gx 31 #[.int .i64 (zs1 ++ (zs2 ++ zs4)).length, .slice Ax ps.length cx] ∧ wx.ownsRow w11.heap.size 51 2 (.slice Ax ps.length cx) ps.length (idsC (idsOf ps)) ∧ w11.heap.size ≤ gx ∧ Grew w11 wx)
  case first =>
    refine wp_region_g 14 (by kernel_rfl) ?_
    have hgW : Grew w11 w11.drew := grew_drew _
    refine AllC.head 0 4 (fuel := 11) (by first | exact fun h k => Grew.trans h k | exact fun h k => cls_grew h k) (hgW) (by rfl) (by kernel_rfl) ?_
    simp only [List.take_succ_cons, List.take_zero, List.drop_succ_cons, List.drop_zero]
    repeat (first
      | (refine HeadC.val (by rfl) ?_
         apply Exists.intro
         refine ⟨fun w' hw' => ?_, ?_⟩
         · (have hf_0 := cell_up hw' d0; have hf_1 := cell_up hw' d1; have hf_2 := cell_up hw' d2; have hf_3 := cell_up hw' d3; (go_simp) <;> (try go_ints) <;> with_reducible rfl)
         try simp only [Act.put, List.setIfInBounds_toArray, List.set_cons_zero, List.set_cons_succ])
      | (refine HeadC.shut (by rfl) ?_
         try simp only [Act.put, List.setIfInBounds_toArray, List.set_cons_zero, List.set_cons_succ]))
    refine HeadC.nil ?_
    refine AllC.both [4, 11] (by kernel_rfl) (by simp) ?_
    intro wg hg i hi
    simp only [List.mem_cons, List.not_mem_nil, or_false] at hi
    rcases hi with rfl | rfl
    · refine ⟨_, rfl, fun K hK => ?_⟩
      go_simp
      have hga := hg.trans (grew_alloc wg (.cells #[.slice A1 zs1.length c1, .slice A2 zs2.length c2, .slice A4 zs4.length c4] 34))
      have hl := row_new (w := wg) (t := 34) (cs := #[.slice A1 zs1.length c1, .slice A2 zs2.length c2, .slice A4 zs4.length c4]) (B := (wg.alloc (.cells #[.slice A1 zs1.length c1, .slice A2 zs2.length c2, .slice A4 zs4.length c4] 34)).heap.size) (by simp)
      replace hgW : Grew w11 (wg.alloc (.cells #[.slice A1 zs1.length c1, .slice A2 zs2.length c2, .slice A4 zs4.length c4] 34)) := hgW.trans hga
      refine hK.out _ _ hgW ?_
      clear hK K hg hga
      try simp only [Act.put, List.setIfInBounds_toArray, List.set_cons_zero, List.set_cons_succ]
      generalize wg.alloc (.cells #[.slice A1 zs1.length c1, .slice A2 zs2.length c2, .slice A4 zs4.length c4] 34) = wa at *
      generalize wg.heap.size = gl at *
      clear wg
      refine AllC.both [5, 11] (by kernel_rfl) (by simp) ?_
      intro wg hg i hi
      simp only [List.mem_cons, List.not_mem_nil, or_false] at hi
      rcases hi with rfl | rfl
      · refine ⟨_, rfl, fun K hK => ?_⟩
        go_simp
        refine (joined_three _ _ _ A1 A2 A4 c1 c2 c4 zs1 zs2 zs4 wg (hl.up hg (Nat.le_refl _)) (((hr1.up hgW (Nat.le_refl _)).more hgW.size).up hg (Nat.le_refl _)) (((hr2.up hgW (Nat.le_refl _)).more hgW.size).up hg (Nat.le_refl _)) (((hr4.up hgW (Nat.le_refl _)).more hgW.size).up hg (Nat.le_refl _)) hg.size (by omega)).mono ?_
        rintro e wj ⟨Bj, bj, rfl, hownj, hb⟩
        have hga := Grew.trans hg hb
        replace hgW : Grew w11 wj := hgW.trans hga
        refine hK.out _ _ hgW ?_
        clear hK K hg hb hga hl
        try simp only [Act.put, List.setIfInBounds_toArray, List.set_cons_zero, List.set_cons_succ]
        have hxl : (zs1 ++ (zs2 ++ zs4)).length ≤ 200 := by simp only [List.length_append]; omega
        have Hzj : Hid (∀ z ∈ (zs1 ++ (zs2 ++ zs4)), 0 ≤ z ∧ z ≤ 255) := Lib.hid (fun z hz => by
          rw [List.mem_append] at hz
          rw [List.mem_append] at hz
          exact hz.elim (Hz1.out z) (fun hz => hz.elim (Hz2.out z) (Hz4.out z)))
        generalize hxy : (zs1 ++ (zs2 ++ zs4)) = xy at *
        have HXY := Lib.hid hxy
        clear hxy
        refine AllC.both [6, 11] (by kernel_rfl) (by simp) ?_
        intro wg hg i hi
        simp only [List.mem_cons, List.not_mem_nil, or_false] at hi
        rcases hi with rfl | rfl
        · refine ⟨_, rfl, fun K hK => ?_⟩
          go_simp
          have hcapj := (own_cap hownj).1
          have hrj := own_row hownj
          refine (build25_any c OK.out Bj bj _ xy wg (hrj.up hg (Nat.le_refl _)) hg.size Hzj.out (by omega) hcapj).mono ?_
          rintro e wb ⟨A7, c7, L7, l7, ps, rfl, hcu, hown7, _, _, hb⟩
          have hga := Grew.trans hg hb
          have hbw : w11.heap.size ≤ wg.heap.size := (hgW.trans hg).size
          replace hown7 := own_mono hown7 hbw
          replace hgW : Grew w11 wb := hgW.trans hga
          refine hK.out _ _ hgW ?_
          clear hK K hg hb hga hownj hrj hcapj hbw
          try simp only [Act.put, List.setIfInBounds_toArray, List.set_cons_zero, List.set_cons_succ]
          have hps := bld_len OK.out hcu
          refine AllC.head 7 4 (fuel := 4) (by first | exact fun h k => Grew.trans h k | exact fun h k => cls_grew h k) (hgW) (by rfl) (by kernel_rfl) ?_
          simp only [List.take_succ_cons, List.take_zero, List.drop_succ_cons, List.drop_zero]
          repeat (first
            | (refine HeadC.val (by rfl) ?_
               apply Exists.intro
               refine ⟨fun w' hw' => ?_, ?_⟩
               · ((go_simp) <;> (try go_ints) <;> with_reducible rfl)
               try simp only [Act.put, List.setIfInBounds_toArray, List.set_cons_zero, List.set_cons_succ])
            | (refine HeadC.shut (by rfl) ?_
               try simp only [Act.put, List.setIfInBounds_toArray, List.set_cons_zero, List.set_cons_succ]))
          refine HeadC.nil ?_
          refine AllC.one 11 (by kernel_rfl) rfl ?_
          intro wg hg K hK
          go_simp
          have hga := hg.trans (grew_alloc wg (.cells #[.int .i64 0, .slice none 0 0] 31))
          replace hown7 := own_below hown7 (hga)
          have hM := Blk.new wg 31 #[.int .i64 0, .slice none 0 0]
          have hgm : w11.heap.size ≤ wg.heap.size := (hgW.trans hg).size
          replace hgW : Grew w11 (wg.alloc (.cells #[.int .i64 0, .slice none 0 0] 31)) := hgW.trans hga
          refine hK.out _ _ hgW ?_
          clear hK K hg hga
          try simp only [Act.put, List.setIfInBounds_toArray, List.set_cons_zero, List.set_cons_succ]
          generalize wg.alloc (.cells #[.int .i64 0, .slice none 0 0] 31) = wm at *
          generalize wg.heap.size = gm at *
          clear wg
          refine AllC.one 12 (by kernel_rfl) rfl ?_
          intro wg hg K hK
          replace hM := hM.of hg
          replace hown7 := own_below hown7 hg
          replace hgW := hgW.trans hg
          have q0 := (hM.cell 0).trans (show _ = some (.int .i64 0) from rfl)
          have q1 := (hM.cell 1).trans (show _ = some (.slice none 0 0) from rfl)
          have f0 := hM.frozen 0
          have f1 := hM.frozen 1
          have hml := hM.lt
          go_simp
          have hk4 := ((Ch.refl (At gm) wg).set_at 0 (.int .i64 xy.length)).set_at 1 (.slice A7 ps.length c7)
          have hgS : Grew w11 ((wg.setCell ⟨gm, 0, none⟩ (.int .i64 xy.length)).setCell ⟨gm, 1, none⟩ (.slice A7 ps.length c7)) := Below.trans (B := w11.heap.size) hgW (hk4.below hgW.size (fun i hi => by have h' : i = gm := hi; omega))
          refine hK.out _ _ hgS ?_
          try simp only [Act.put, List.setIfInBounds_toArray, List.set_cons_zero, List.set_cons_succ]
          replace hown7 := own_ch hown7 hk4 (fun i hi h => own_blk_ne hown7 hM (by decide) (by rw [hi]; exact congrArg some h))
          replace hM := (hM.set_ 0 (.int .i64 xy.length)).set_ 1 (.slice A7 ps.length c7)
          clear hK K hg hgW q0 q1 f0 f1 hml hk4
          generalize (wg.setCell ⟨gm, 0, none⟩ (.int .i64 xy.length)).setCell ⟨gm, 1, none⟩ (.slice A7 ps.length c7) = ws at *
          clear wg
          refine AllC.head 13 1 (fuel := 1) (by first | exact fun h k => Grew.trans h k | exact fun h k => cls_grew h k) (hgS) (by rfl) (by kernel_rfl) ?_
          simp only [List.take_succ_cons, List.take_zero, List.drop_succ_cons, List.drop_zero]
          repeat (first
            | (refine HeadC.val (by rfl) ?_
               apply Exists.intro
               refine ⟨fun w' hw' => ?_, ?_⟩
               · ((go_simp) <;> (try go_ints) <;> with_reducible rfl)
               try simp only [Act.put, List.setIfInBounds_toArray, List.set_cons_zero, List.set_cons_succ])
            | (refine HeadC.shut (by rfl) ?_
               try simp only [Act.put, List.setIfInBounds_toArray, List.set_cons_zero, List.set_cons_succ]))
          refine HeadC.nil ?_
          refine AllC.tail 14 (by rfl) (by kernel_rfl) ?_
          intro wt hwt
          simp only [List.drop_succ_cons, List.drop_zero]
          replace hM := hM.of hwt
          replace hown7 := own_below hown7 hwt
          replace hgS := hgS.trans hwt
          clear hwt
          go_wp2_with fail
          go_meet
          obtain rfl := HXY.out
          exact ⟨gm, A7, c7, L7, l7, ps, rfl, rfl, rfl, hcu, hM, hown7, hgm, hgS⟩
        · refine ⟨_, rfl, fun K hK => ?_⟩
          go_simp
          have hga := hg.trans (grew_alloc wg (.cells #[.int .i64 0, .slice none 0 0] 31))
          replace hownj := own_below hownj (hga)
          have hM := Blk.new wg 31 #[.int .i64 0, .slice none 0 0]
          have hgm : w11.heap.size ≤ wg.heap.size := (hgW.trans hg).size
          replace hgW : Grew w11 (wg.alloc (.cells #[.int .i64 0, .slice none 0 0] 31)) := hgW.trans hga
          refine hK.out _ _ hgW ?_
          clear hK K hg hga
          try simp only [Act.put, List.setIfInBounds_toArray, List.set_cons_zero, List.set_cons_succ]
          generalize wg.alloc (.cells #[.int .i64 0, .slice none 0 0] 31) = wm at *
          generalize wg.heap.size = gm at *
          clear wg
          refine AllC.one 6 (by kernel_rfl) rfl ?_
          intro wg hg K hK
          go_simp
          have hcapj := (own_cap hownj).1
          have hrj := own_row hownj
          refine (build25_any c OK.out Bj bj _ xy wg (hrj.up hg (Nat.le_refl _)) hg.size Hzj.out (by omega) hcapj).mono ?_
          rintro e wb ⟨A7, c7, L7, l7, ps, rfl, hcu, hown7, _, _, hb⟩
          have hga := Grew.trans hg hb
          replace hM := hM.of (hga)
          have hbw : w11.heap.size ≤ wg.heap.size := (hgW.trans hg).size
          replace hown7 := own_mono hown7 hbw
          replace hgW : Grew w11 wb := hgW.trans hga
          refine hK.out _ _ hgW ?_
          clear hK K hg hb hga hownj hrj hcapj hbw
          try simp only [Act.put, List.setIfInBounds_toArray, List.set_cons_zero, List.set_cons_succ]
          have hps := bld_len OK.out hcu
          refine AllC.head 7 4 (fuel := 3) (by first | exact fun h k => Grew.trans h k | exact fun h k => cls_grew h k) (hgW) (by rfl) (by kernel_rfl) ?_
          simp only [List.take_succ_cons, List.take_zero, List.drop_succ_cons, List.drop_zero]
          repeat (first
            | (refine HeadC.val (by rfl) ?_
               apply Exists.intro
               refine ⟨fun w' hw' => ?_, ?_⟩
               · ((go_simp) <;> (try go_ints) <;> with_reducible rfl)
               try simp only [Act.put, List.setIfInBounds_toArray, List.set_cons_zero, List.set_cons_succ])
            | (refine HeadC.shut (by rfl) ?_
               try simp only [Act.put, List.setIfInBounds_toArray, List.set_cons_zero, List.set_cons_succ]))
          refine HeadC.nil ?_
          refine AllC.one 12 (by kernel_rfl) rfl ?_
          intro wg hg K hK
          replace hM := hM.of hg
          replace hown7 := own_below hown7 hg
          replace hgW := hgW.trans hg
          have q0 := (hM.cell 0).trans (show _ = some (.int .i64 0) from rfl)
          have q1 := (hM.cell 1).trans (show _ = some (.slice none 0 0) from rfl)
          have f0 := hM.frozen 0
          have f1 := hM.frozen 1
          have hml := hM.lt
          go_simp
          have hk4 := ((Ch.refl (At gm) wg).set_at 0 (.int .i64 xy.length)).set_at 1 (.slice A7 ps.length c7)
          have hgS : Grew w11 ((wg.setCell ⟨gm, 0, none⟩ (.int .i64 xy.length)).setCell ⟨gm, 1, none⟩ (.slice A7 ps.length c7)) := Below.trans (B := w11.heap.size) hgW (hk4.below hgW.size (fun i hi => by have h' : i = gm := hi; omega))
          refine hK.out _ _ hgS ?_
          try simp only [Act.put, List.setIfInBounds_toArray, List.set_cons_zero, List.set_cons_succ]
          replace hown7 := own_ch hown7 hk4 (fun i hi h => own_blk_ne hown7 hM (by decide) (by rw [hi]; exact congrArg some h))
          replace hM := (hM.set_ 0 (.int .i64 xy.length)).set_ 1 (.slice A7 ps.length c7)
          clear hK K hg hgW q0 q1 f0 f1 hml hk4
          generalize (wg.setCell ⟨gm, 0, none⟩ (.int .i64 xy.length)).setCell ⟨gm, 1, none⟩ (.slice A7 ps.length c7) = ws at *
          clear wg
          refine AllC.head 13 1 (fuel := 1) (by first | exact fun h k => Grew.trans h k | exact fun h k => cls_grew h k) (hgS) (by rfl) (by kernel_rfl) ?_
          simp only [List.take_succ_cons, List.take_zero, List.drop_succ_cons, List.drop_zero]
          repeat (first
            | (refine HeadC.val (by rfl) ?_
               apply Exists.intro
               refine ⟨fun w' hw' => ?_, ?_⟩
               · ((go_simp) <;> (try go_ints) <;> with_reducible rfl)
               try simp only [Act.put, List.setIfInBounds_toArray, List.set_cons_zero, List.set_cons_succ])
            | (refine HeadC.shut (by rfl) ?_
               try simp only [Act.put, List.setIfInBounds_toArray, List.set_cons_zero, List.set_cons_succ]))
          refine HeadC.nil ?_
          refine AllC.tail 14 (by rfl) (by kernel_rfl) ?_
          intro wt hwt
          simp only [List.drop_succ_cons, List.drop_zero]
          replace hM := hM.of hwt
          replace hown7 := own_below hown7 hwt
          replace hgS := hgS.trans hwt
          clear hwt
          go_wp2_with fail
          go_meet
          obtain rfl := HXY.out
          exact ⟨gm, A7, c7, L7, l7, ps, rfl, rfl, rfl, hcu, hM, hown7, hgm, hgS⟩
      · refine ⟨_, rfl, fun K hK => ?_⟩
        go_simp
        have hga := hg.trans (grew_alloc wg (.cells #[.int .i64 0, .slice none 0 0] 31))
        replace hl := (hl.up (hga) (Nat.le_refl _)).more (Below.size (hga))
        have hM := Blk.new wg 31 #[.int .i64 0, .slice none 0 0]
        have hgm : w11.heap.size ≤ wg.heap.size := (hgW.trans hg).size
        replace hgW : Grew w11 (wg.alloc (.cells #[.int .i64 0, .slice none 0 0] 31)) := hgW.trans hga
        refine hK.out _ _ hgW ?_
        clear hK K hg hga
        try simp only [Act.put, List.setIfInBounds_toArray, List.set_cons_zero, List.set_cons_succ]
        generalize wg.alloc (.cells #[.int .i64 0, .slice none 0 0] 31) = wm at *
        generalize wg.heap.size = gm at *
        clear wg
        refine AllC.one 5 (by kernel_rfl) rfl ?_
        intro wg hg K hK
        go_simp
        refine (joined_three _ _ _ A1 A2 A4 c1 c2 c4 zs1 zs2 zs4 wg (hl.up hg (Nat.le_refl _)) (((hr1.up hgW (Nat.le_refl _)).more hgW.size).up hg (Nat.le_refl _)) (((hr2.up hgW (Nat.le_refl _)).more hgW.size).up hg (Nat.le_refl _)) (((hr4.up hgW (Nat.le_refl _)).more hgW.size).up hg (Nat.le_refl _)) hg.size (by omega)).mono ?_
        rintro e wj ⟨Bj, bj, rfl, hownj, hb⟩
        have hga := Grew.trans hg hb
        replace hM := hM.of (hga)
        replace hgW : Grew w11 wj := hgW.trans hga
        refine hK.out _ _ hgW ?_
        clear hK K hg hb hga hl
        try simp only [Act.put, List.setIfInBounds_toArray, List.set_cons_zero, List.set_cons_succ]
        have hxl : (zs1 ++ (zs2 ++ zs4)).length ≤ 200 := by simp only [List.length_append]; omega
        have Hzj : Hid (∀ z ∈ (zs1 ++ (zs2 ++ zs4)), 0 ≤ z ∧ z ≤ 255) := Lib.hid (fun z hz => by
          rw [List.mem_append] at hz
          rw [List.mem_append] at hz
          exact hz.elim (Hz1.out z) (fun hz => hz.elim (Hz2.out z) (Hz4.out z)))
        generalize hxy : (zs1 ++ (zs2 ++ zs4)) = xy at *
        have HXY := Lib.hid hxy
        clear hxy
        refine AllC.one 6 (by kernel_rfl) rfl ?_
        intro wg hg K hK
        go_simp
        have hcapj := (own_cap hownj).1
        have hrj := own_row hownj
        refine (build25_any c OK.out Bj bj _ xy wg (hrj.up hg (Nat.le_refl _)) hg.size Hzj.out (by omega) hcapj).mono ?_
        rintro e wb ⟨A7, c7, L7, l7, ps, rfl, hcu, hown7, _, _, hb⟩
        have hga := Grew.trans hg hb
        replace hM := hM.of (hga)
        have hbw : w11.heap.size ≤ wg.heap.size := (hgW.trans hg).size
        replace hown7 := own_mono hown7 hbw
        replace hgW : Grew w11 wb := hgW.trans hga
        refine hK.out _ _ hgW ?_
        clear hK K hg hb hga hownj hrj hcapj hbw
        try simp only [Act.put, List.setIfInBounds_toArray, List.set_cons_zero, List.set_cons_succ]
        have hps := bld_len OK.out hcu
        refine AllC.head 7 4 (fuel := 3) (by first | exact fun h k => Grew.trans h k | exact fun h k => cls_grew h k) (hgW) (by rfl) (by kernel_rfl) ?_
        simp only [List.take_succ_cons, List.take_zero, List.drop_succ_cons, List.drop_zero]
        repeat (first
          | (refine HeadC.val (by rfl) ?_
             apply Exists.intro
             refine ⟨fun w' hw' => ?_, ?_⟩
             · ((go_simp) <;> (try go_ints) <;> with_reducible rfl)
             try simp only [Act.put, List.setIfInBounds_toArray, List.set_cons_zero, List.set_cons_succ])
          | (refine HeadC.shut (by rfl) ?_
             try simp only [Act.put, List.setIfInBounds_toArray, List.set_cons_zero, List.set_cons_succ]))
        refine HeadC.nil ?_
        refine AllC.one 12 (by kernel_rfl) rfl ?_
        intro wg hg K hK
        replace hM := hM.of hg
        replace hown7 := own_below hown7 hg
        replace hgW := hgW.trans hg
        have q0 := (hM.cell 0).trans (show _ = some (.int .i64 0) from rfl)
        have q1 := (hM.cell 1).trans (show _ = some (.slice none 0 0) from rfl)
        have f0 := hM.frozen 0
        have f1 := hM.frozen 1
        have hml := hM.lt
        go_simp
        have hk4 := ((Ch.refl (At gm) wg).set_at 0 (.int .i64 xy.length)).set_at 1 (.slice A7 ps.length c7)
        have hgS : Grew w11 ((wg.setCell ⟨gm, 0, none⟩ (.int .i64 xy.length)).setCell ⟨gm, 1, none⟩ (.slice A7 ps.length c7)) := Below.trans (B := w11.heap.size) hgW (hk4.below hgW.size (fun i hi => by have h' : i = gm := hi; omega))
        refine hK.out _ _ hgS ?_
        try simp only [Act.put, List.setIfInBounds_toArray, List.set_cons_zero, List.set_cons_succ]
        replace hown7 := own_ch hown7 hk4 (fun i hi h => own_blk_ne hown7 hM (by decide) (by rw [hi]; exact congrArg some h))
        replace hM := (hM.set_ 0 (.int .i64 xy.length)).set_ 1 (.slice A7 ps.length c7)
        clear hK K hg hgW q0 q1 f0 f1 hml hk4
        generalize (wg.setCell ⟨gm, 0, none⟩ (.int .i64 xy.length)).setCell ⟨gm, 1, none⟩ (.slice A7 ps.length c7) = ws at *
        clear wg
        refine AllC.head 13 1 (fuel := 1) (by first | exact fun h k => Grew.trans h k | exact fun h k => cls_grew h k) (hgS) (by rfl) (by kernel_rfl) ?_
        simp only [List.take_succ_cons, List.take_zero, List.drop_succ_cons, List.drop_zero]
        repeat (first
          | (refine HeadC.val (by rfl) ?_
             apply Exists.intro
             refine ⟨fun w' hw' => ?_, ?_⟩
             · ((go_simp) <;> (try go_ints) <;> with_reducible rfl)
             try simp only [Act.put, List.setIfInBounds_toArray, List.set_cons_zero, List.set_cons_succ])
          | (refine HeadC.shut (by rfl) ?_
             try simp only [Act.put, List.setIfInBounds_toArray, List.set_cons_zero, List.set_cons_succ]))
        refine HeadC.nil ?_
        refine AllC.tail 14 (by rfl) (by kernel_rfl) ?_
        intro wt hwt
        simp only [List.drop_succ_cons, List.drop_zero]
        replace hM := hM.of hwt
        replace hown7 := own_below hown7 hwt
        replace hgS := hgS.trans hwt
        clear hwt
        go_wp2_with fail
        go_meet
        obtain rfl := HXY.out
        exact ⟨gm, A7, c7, L7, l7, ps, rfl, rfl, rfl, hcu, hM, hown7, hgm, hgS⟩
    · refine ⟨_, rfl, fun K hK => ?_⟩
      go_simp
      have hga := hg.trans (grew_alloc wg (.cells #[.int .i64 0, .slice none 0 0] 31))
      have hM := Blk.new wg 31 #[.int .i64 0, .slice none 0 0]
      have hgm : w11.heap.size ≤ wg.heap.size := (hgW.trans hg).size
      replace hgW : Grew w11 (wg.alloc (.cells #[.int .i64 0, .slice none 0 0] 31)) := hgW.trans hga
      refine hK.out _ _ hgW ?_
      clear hK K hg hga
      try simp only [Act.put, List.setIfInBounds_toArray, List.set_cons_zero, List.set_cons_succ]
      generalize wg.alloc (.cells #[.int .i64 0, .slice none 0 0] 31) = wm at *
      generalize wg.heap.size = gm at *
      clear wg
      refine AllC.one 4 (by kernel_rfl) rfl ?_
      intro wg hg K hK
      go_simp
      have hga := hg.trans (grew_alloc wg (.cells #[.slice A1 zs1.length c1, .slice A2 zs2.length c2, .slice A4 zs4.length c4] 34))
      replace hM := hM.of (hga)
      have hl := row_new (w := wg) (t := 34) (cs := #[.slice A1 zs1.length c1, .slice A2 zs2.length c2, .slice A4 zs4.length c4]) (B := (wg.alloc (.cells #[.slice A1 zs1.length c1, .slice A2 zs2.length c2, .slice A4 zs4.length c4] 34)).heap.size) (by simp)
      replace hgW : Grew w11 (wg.alloc (.cells #[.slice A1 zs1.length c1, .slice A2 zs2.length c2, .slice A4 zs4.length c4] 34)) := hgW.trans hga
      refine hK.out _ _ hgW ?_
      clear hK K hg hga
      try simp only [Act.put, List.setIfInBounds_toArray, List.set_cons_zero, List.set_cons_succ]
      generalize wg.alloc (.cells #[.slice A1 zs1.length c1, .slice A2 zs2.length c2, .slice A4 zs4.length c4] 34) = wa at *
      generalize wg.heap.size = gl at *
      clear wg
      refine AllC.one 5 (by kernel_rfl) rfl ?_
      intro wg hg K hK
      go_simp
      refine (joined_three _ _ _ A1 A2 A4 c1 c2 c4 zs1 zs2 zs4 wg (hl.up hg (Nat.le_refl _)) (((hr1.up hgW (Nat.le_refl _)).more hgW.size).up hg (Nat.le_refl _)) (((hr2.up hgW (Nat.le_refl _)).more hgW.size).up hg (Nat.le_refl _)) (((hr4.up hgW (Nat.le_refl _)).more hgW.size).up hg (Nat.le_refl _)) hg.size (by omega)).mono ?_
      rintro e wj ⟨Bj, bj, rfl, hownj, hb⟩
      have hga := Grew.trans hg hb
      replace hM := hM.of (hga)
      replace hgW : Grew w11 wj := hgW.trans hga
      refine hK.out _ _ hgW ?_
      clear hK K hg hb hga hl
      try simp only [Act.put, List.setIfInBounds_toArray, List.set_cons_zero, List.set_cons_succ]
      have hxl : (zs1 ++ (zs2 ++ zs4)).length ≤ 200 := by simp only [List.length_append]; omega
      have Hzj : Hid (∀ z ∈ (zs1 ++ (zs2 ++ zs4)), 0 ≤ z ∧ z ≤ 255) := Lib.hid (fun z hz => by
        rw [List.mem_append] at hz
        rw [List.mem_append] at hz
        exact hz.elim (Hz1.out z) (fun hz => hz.elim (Hz2.out z) (Hz4.out z)))
      generalize hxy : (zs1 ++ (zs2 ++ zs4)) = xy at *
      have HXY := Lib.hid hxy
      clear hxy
      refine AllC.one 6 (by kernel_rfl) rfl ?_
      intro wg hg K hK
      go_simp
      have hcapj := (own_cap hownj).1
      have hrj := own_row hownj
      refine (build25_any c OK.out Bj bj _ xy wg (hrj.up hg (Nat.le_refl _)) hg.size Hzj.out (by omega) hcapj).mono ?_
      rintro e wb ⟨A7, c7, L7, l7, ps, rfl, hcu, hown7, _, _, hb⟩
      have hga := Grew.trans hg hb
      replace hM := hM.of (hga)
      have hbw : w11.heap.size ≤ wg.heap.size := (hgW.trans hg).size
      replace hown7 := own_mono hown7 hbw
      replace hgW : Grew w11 wb := hgW.trans hga
      refine hK.out _ _ hgW ?_
      clear hK K hg hb hga hownj hrj hcapj hbw
      try simp only [Act.put, List.setIfInBounds_toArray, List.set_cons_zero, List.set_cons_succ]
      have hps := bld_len OK.out hcu
      refine AllC.head 7 4 (fuel := 3) (by first | exact fun h k => Grew.trans h k | exact fun h k => cls_grew h k) (hgW) (by rfl) (by kernel_rfl) ?_
      simp only [List.take_succ_cons, List.take_zero, List.drop_succ_cons, List.drop_zero]
      repeat (first
        | (refine HeadC.val (by rfl) ?_
           apply Exists.intro
           refine ⟨fun w' hw' => ?_, ?_⟩
           · ((go_simp) <;> (try go_ints) <;> with_reducible rfl)
           try simp only [Act.put, List.setIfInBounds_toArray, List.set_cons_zero, List.set_cons_succ])
        | (refine HeadC.shut (by rfl) ?_
           try simp only [Act.put, List.setIfInBounds_toArray, List.set_cons_zero, List.set_cons_succ]))
      refine HeadC.nil ?_
      refine AllC.one 12 (by kernel_rfl) rfl ?_
      intro wg hg K hK
      replace hM := hM.of hg
      replace hown7 := own_below hown7 hg
      replace hgW := hgW.trans hg
      have q0 := (hM.cell 0).trans (show _ = some (.int .i64 0) from rfl)
      have q1 := (hM.cell 1).trans (show _ = some (.slice none 0 0) from rfl)
      have f0 := hM.frozen 0
      have f1 := hM.frozen 1
      have hml := hM.lt
      go_simp
      have hk4 := ((Ch.refl (At gm) wg).set_at 0 (.int .i64 xy.length)).set_at 1 (.slice A7 ps.length c7)
      have hgS : Grew w11 ((wg.setCell ⟨gm, 0, none⟩ (.int .i64 xy.length)).setCell ⟨gm, 1, none⟩ (.slice A7 ps.length c7)) := Below.trans (B := w11.heap.size) hgW (hk4.below hgW.size (fun i hi => by have h' : i = gm := hi; omega))
      refine hK.out _ _ hgS ?_
      try simp only [Act.put, List.setIfInBounds_toArray, List.set_cons_zero, List.set_cons_succ]
      replace hown7 := own_ch hown7 hk4 (fun i hi h => own_blk_ne hown7 hM (by decide) (by rw [hi]; exact congrArg some h))
      replace hM := (hM.set_ 0 (.int .i64 xy.length)).set_ 1 (.slice A7 ps.length c7)
      clear hK K hg hgW q0 q1 f0 f1 hml hk4
      generalize (wg.setCell ⟨gm, 0, none⟩ (.int .i64 xy.length)).setCell ⟨gm, 1, none⟩ (.slice A7 ps.length c7) = ws at *
      clear wg
      refine AllC.head 13 1 (fuel := 1) (by first | exact fun h k => Grew.trans h k | exact fun h k => cls_grew h k) (hgS) (by rfl) (by kernel_rfl) ?_
      simp only [List.take_succ_cons, List.take_zero, List.drop_succ_cons, List.drop_zero]
      repeat (first
        | (refine HeadC.val (by rfl) ?_
           apply Exists.intro
           refine ⟨fun w' hw' => ?_, ?_⟩
           · ((go_simp) <;> (try go_ints) <;> with_reducible rfl)
           try simp only [Act.put, List.setIfInBounds_toArray, List.set_cons_zero, List.set_cons_succ])
        | (refine HeadC.shut (by rfl) ?_
           try simp only [Act.put, List.setIfInBounds_toArray, List.set_cons_zero, List.set_cons_succ]))
      refine HeadC.nil ?_
      refine AllC.tail 14 (by rfl) (by kernel_rfl) ?_
      intro wt hwt
      simp only [List.drop_succ_cons, List.drop_zero]
      replace hM := hM.of hwt
      replace hown7 := own_below hown7 hwt
      replace hgS := hgS.trans hwt
      clear hwt
      go_wp2_with fail
      go_meet
      obtain rfl := HXY.out
      exact ⟨gm, A7, c7, L7, l7, ps, rfl, rfl, rfl, hcu, hM, hown7, hgm, hgS⟩
  case rest =>
    obtain ⟨gw, Aw, cw, Lw, lw, ps, rfl, rfl, rfl, hcuw, hMw, hownw, hgw, hgW⟩ := hcut
    obtain ⟨w12, hw12⟩ : ∃ w12, w12 = wc := ⟨_, rfl⟩
    subst hw12
    replace hC := hC.of hgW
    replace hr1 := (hr1.up hgW (Nat.le_refl _)).more (Below.size hgW)
    replace hr3 := (hr3.up hgW (Nat.le_refl _)).more (Below.size hgW)
    replace hr4 := (hr4.up hgW (Nat.le_refl _)).more (Below.size hgW)
    replace hb3 := Grew.trans hb3 hgW
    clear hgW hr2 hcap2 hgw d0 d1 d2 d3 d4
    obtain ⟨d0, d1, d2, d3, d4⟩ := hC.cells
    have HCuw := Lib.hid hcuw
    clear hcuw
    obtain ⟨psw, hpsw⟩ : ∃ psw, psw = ps := ⟨_, rfl⟩
    subst hpsw
    go_wp2_with fail
    go_cut [12, 13, 14] (fun s1 s2 s3 wx => ∃ (gx : Nat) (Ax : Option Addr) (cx : Nat) (Lx : Option Addr) (lx : Nat) (ps : List Part), s1 = .pointer (some ⟨gx, 0, none⟩) ∧ s2 = .slice Lx ps.length lx ∧ s3 = .int .i64 0 ∧ ps.map Part.zs = pcsZ c (zs1 ++ (zs3 ++ zs4)) ∧ Blk wx gx 31 #[.int .i64 (zs1 ++ (zs3 ++ zs4)).length, .slice Ax ps.length cx] ∧ wx.ownsRow w12.heap.size 51 2 (.slice Ax ps.length cx) ps.length (idsC (idsOf ps)) ∧ w12.heap.size ≤ gx ∧ Grew w12 wx)
    case first =>
      refine wp_region_g 14 (by kernel_rfl) ?_
      have hgW : Grew w12 w12.drew := grew_drew _
      refine AllC.head 0 4 (fuel := 11) (by first | exact fun h k => Grew.trans h k | exact fun h k => cls_grew h k) (hgW) (by rfl) (by kernel_rfl) ?_
      simp only [List.take_succ_cons, List.take_zero, List.drop_succ_cons, List.drop_zero]
      repeat (first
        | (refine HeadC.val (by rfl) ?_
           apply Exists.intro
           refine ⟨fun w' hw' => ?_, ?_⟩
           · (have hf_0 := cell_up hw' d0; have hf_1 := cell_up hw' d1; have hf_2 := cell_up hw' d2; have hf_3 := cell_up hw' d3; (go_simp) <;> (try go_ints) <;> with_reducible rfl)
           try simp only [Act.put, List.setIfInBounds_toArray, List.set_cons_zero, List.set_cons_succ])
        | (refine HeadC.shut (by rfl) ?_
           try simp only [Act.put, List.setIfInBounds_toArray, List.set_cons_zero, List.set_cons_succ]))
      refine HeadC.nil ?_
      refine AllC.both [4, 11] (by kernel_rfl) (by simp) ?_
      intro wg hg i hi
      simp only [List.mem_cons, List.not_mem_nil, or_false] at hi
      rcases hi with rfl | rfl
      · refine ⟨_, rfl, fun K hK => ?_⟩
        go_simp
        have hga := hg.trans (grew_alloc wg (.cells #[.slice A1 zs1.length c1, .slice A3 zs3.length c3, .slice A4 zs4.length c4] 34))
        have hl := row_new (w := wg) (t := 34) (cs := #[.slice A1 zs1.length c1, .slice A3 zs3.length c3, .slice A4 zs4.length c4]) (B := (wg.alloc (.cells #[.slice A1 zs1.length c1, .slice A3 zs3.length c3, .slice A4 zs4.length c4] 34)).heap.size) (by simp)
        replace hgW : Grew w12 (wg.alloc (.cells #[.slice A1 zs1.length c1, .slice A3 zs3.length c3, .slice A4 zs4.length c4] 34)) := hgW.trans hga
        refine hK.out _ _ hgW ?_
        clear hK K hg hga
        try simp only [Act.put, List.setIfInBounds_toArray, List.set_cons_zero, List.set_cons_succ]
        generalize wg.alloc (.cells #[.slice A1 zs1.length c1, .slice A3 zs3.length c3, .slice A4 zs4.length c4] 34) = wa at *
        generalize wg.heap.size = gl at *
        clear wg
        refine AllC.both [5, 11] (by kernel_rfl) (by simp) ?_
        intro wg hg i hi
        simp only [List.mem_cons, List.not_mem_nil, or_false] at hi
        rcases hi with rfl | rfl
        · refine ⟨_, rfl, fun K hK => ?_⟩
          go_simp
          refine (joined_three _ _ _ A1 A3 A4 c1 c3 c4 zs1 zs3 zs4 wg (hl.up hg (Nat.le_refl _)) (((hr1.up hgW (Nat.le_refl _)).more hgW.size).up hg (Nat.le_refl _)) (((hr3.up hgW (Nat.le_refl _)).more hgW.size).up hg (Nat.le_refl _)) (((hr4.up hgW (Nat.le_refl _)).more hgW.size).up hg (Nat.le_refl _)) hg.size (by omega)).mono ?_
          rintro e wj ⟨Bj, bj, rfl, hownj, hb⟩
          have hga := Grew.trans hg hb
          replace hgW : Grew w12 wj := hgW.trans hga
          refine hK.out _ _ hgW ?_
          clear hK K hg hb hga hl
          try simp only [Act.put, List.setIfInBounds_toArray, List.set_cons_zero, List.set_cons_succ]
          have hxl : (zs1 ++ (zs3 ++ zs4)).length ≤ 200 := by simp only [List.length_append]; omega
          have Hzj : Hid (∀ z ∈ (zs1 ++ (zs3 ++ zs4)), 0 ≤ z ∧ z ≤ 255) := Lib.hid (fun z hz => by
            rw [List.mem_append] at hz
            rw [List.mem_append] at hz
            exact hz.elim (Hz1.out z) (fun hz => hz.elim (Hz3.out z) (Hz4.out z)))
          generalize hxy : (zs1 ++ (zs3 ++ zs4)) = xy at *
          have HXY := Lib.hid hxy
          clear hxy
          refine AllC.both [6, 11] (by kernel_rfl) (by simp) ?_
          intro wg hg i hi
          simp only [List.mem_cons, List.not_mem_nil, or_false] at hi
          rcases hi with rfl | rfl
          · refine ⟨_, rfl, fun K hK => ?_⟩
            go_simp
            have hcapj := (own_cap hownj).1
            have hrj := own_row hownj
            refine (build25_any c OK.out Bj bj _ xy wg (hrj.up hg (Nat.le_refl _)) hg.size Hzj.out (by omega) hcapj).mono ?_
            rintro e wb ⟨A7, c7, L7, l7, ps, rfl, hcu, hown7, _, _, hb⟩
            have hga := Grew.trans hg hb
            have hbw : w12.heap.size ≤ wg.heap.size := (hgW.trans hg).size
            replace hown7 := own_mono hown7 hbw
            replace hgW : Grew w12 wb := hgW.trans hga
            refine hK.out _ _ hgW ?_
            clear hK K hg hb hga hownj hrj hcapj hbw
            try simp only [Act.put, List.setIfInBounds_toArray, List.set_cons_zero, List.set_cons_succ]
            have hps := bld_len OK.out hcu
            refine AllC.head 7 4 (fuel := 4) (by first | exact fun h k => Grew.trans h k | exact fun h k => cls_grew h k) (hgW) (by rfl) (by kernel_rfl) ?_
            simp only [List.take_succ_cons, List.take_zero, List.drop_succ_cons, List.drop_zero]
            repeat (first
              | (refine HeadC.val (by rfl) ?_
                 apply Exists.intro
                 refine ⟨fun w' hw' => ?_, ?_⟩
                 · ((go_simp) <;> (try go_ints) <;> with_reducible rfl)
                 try simp only [Act.put, List.setIfInBounds_toArray, List.set_cons_zero, List.set_cons_succ])
              | (refine HeadC.shut (by rfl) ?_
                 try simp only [Act.put, List.setIfInBounds_toArray, List.set_cons_zero, List.set_cons_succ]))
            refine HeadC.nil ?_
            refine AllC.one 11 (by kernel_rfl) rfl ?_
            intro wg hg K hK
            go_simp
            have hga := hg.trans (grew_alloc wg (.cells #[.int .i64 0, .slice none 0 0] 31))
            replace hown7 := own_below hown7 (hga)
            have hM := Blk.new wg 31 #[.int .i64 0, .slice none 0 0]
            have hgm : w12.heap.size ≤ wg.heap.size := (hgW.trans hg).size
            replace hgW : Grew w12 (wg.alloc (.cells #[.int .i64 0, .slice none 0 0] 31)) := hgW.trans hga
            refine hK.out _ _ hgW ?_
            clear hK K hg hga
            try simp only [Act.put, List.setIfInBounds_toArray, List.set_cons_zero, List.set_cons_succ]
            generalize wg.alloc (.cells #[.int .i64 0, .slice none 0 0] 31) = wm at *
            generalize wg.heap.size = gm at *
            clear wg
            refine AllC.one 12 (by kernel_rfl) rfl ?_
            intro wg hg K hK
            replace hM := hM.of hg
            replace hown7 := own_below hown7 hg
            replace hgW := hgW.trans hg
            have q0 := (hM.cell 0).trans (show _ = some (.int .i64 0) from rfl)
            have q1 := (hM.cell 1).trans (show _ = some (.slice none 0 0) from rfl)
            have f0 := hM.frozen 0
            have f1 := hM.frozen 1
            have hml := hM.lt
            go_simp
            have hk4 := ((Ch.refl (At gm) wg).set_at 0 (.int .i64 xy.length)).set_at 1 (.slice A7 ps.length c7)
            have hgS : Grew w12 ((wg.setCell ⟨gm, 0, none⟩ (.int .i64 xy.length)).setCell ⟨gm, 1, none⟩ (.slice A7 ps.length c7)) := Below.trans (B := w12.heap.size) hgW (hk4.below hgW.size (fun i hi => by have h' : i = gm := hi; omega))
            refine hK.out _ _ hgS ?_
            try simp only [Act.put, List.setIfInBounds_toArray, List.set_cons_zero, List.set_cons_succ]
            replace hown7 := own_ch hown7 hk4 (fun i hi h => own_blk_ne hown7 hM (by decide) (by rw [hi]; exact congrArg some h))
            replace hM := (hM.set_ 0 (.int .i64 xy.length)).set_ 1 (.slice A7 ps.length c7)
            clear hK K hg hgW q0 q1 f0 f1 hml hk4
            generalize (wg.setCell ⟨gm, 0, none⟩ (.int .i64 xy.length)).setCell ⟨gm, 1, none⟩ (.slice A7 ps.length c7) = ws at *
            clear wg
            refine AllC.head 13 1 (fuel := 1) (by first | exact fun h k => Grew.trans h k | exact fun h k => cls_grew h k) (hgS) (by rfl) (by kernel_rfl) ?_
            simp only [List.take_succ_cons, List.take_zero, List.drop_succ_cons, List.drop_zero]
            repeat (first
              | (refine HeadC.val (by rfl) ?_
                 apply Exists.intro
                 refine ⟨fun w' hw' => ?_, ?_⟩
                 · ((go_simp) <;> (try go_ints) <;> with_reducible rfl)
                 try simp only [Act.put, List.setIfInBounds_toArray, List.set_cons_zero, List.set_cons_succ])
              | (refine HeadC.shut (by rfl) ?_
                 try simp only [Act.put, List.setIfInBounds_toArray, List.set_cons_zero, List.set_cons_succ]))
            refine HeadC.nil ?_
            refine AllC.tail 14 (by rfl) (by kernel_rfl) ?_
            intro wt hwt
            simp only [List.drop_succ_cons, List.drop_zero]
            replace hM := hM.of hwt
            replace hown7 := own_below hown7 hwt
            replace hgS := hgS.trans hwt
            clear hwt
            go_wp2_with fail
            go_meet
            obtain rfl := HXY.out
            exact ⟨gm, A7, c7, L7, l7, ps, rfl, rfl, rfl, hcu, hM, hown7, hgm, hgS⟩
          · refine ⟨_, rfl, fun K hK => ?_⟩
            go_simp
            have hga := hg.trans (grew_alloc wg (.cells #[.int .i64 0, .slice none 0 0] 31))
            replace hownj := own_below hownj (hga)
            have hM := Blk.new wg 31 #[.int .i64 0, .slice none 0 0]
            have hgm : w12.heap.size ≤ wg.heap.size := (hgW.trans hg).size
            replace hgW : Grew w12 (wg.alloc (.cells #[.int .i64 0, .slice none 0 0] 31)) := hgW.trans hga
            refine hK.out _ _ hgW ?_
            clear hK K hg hga
            try simp only [Act.put, List.setIfInBounds_toArray, List.set_cons_zero, List.set_cons_succ]
            generalize wg.alloc (.cells #[.int .i64 0, .slice none 0 0] 31) = wm at *
            generalize wg.heap.size = gm at *
            clear wg
            refine AllC.one 6 (by kernel_rfl) rfl ?_
            intro wg hg K hK
            go_simp
            have hcapj := (own_cap hownj).1
            have hrj := own_row hownj
            refine (build25_any c OK.out Bj bj _ xy wg (hrj.up hg (Nat.le_refl _)) hg.size Hzj.out (by omega) hcapj).mono ?_
            rintro e wb ⟨A7, c7, L7, l7, ps, rfl, hcu, hown7, _, _, hb⟩
            have hga := Grew.trans hg hb
            replace hM := hM.of (hga)
            have hbw : w12.heap.size ≤ wg.heap.size := (hgW.trans hg).size
            replace hown7 := own_mono hown7 hbw
            replace hgW : Grew w12 wb := hgW.trans hga
            refine hK.out _ _ hgW ?_
            clear hK K hg hb hga hownj hrj hcapj hbw
            try simp only [Act.put, List.setIfInBounds_toArray, List.set_cons_zero, List.set_cons_succ]
            have hps := bld_len OK.out hcu
            refine AllC.head 7 4 (fuel := 3) (by first | exact fun h k => Grew.trans h k | exact fun h k => cls_grew h k) (hgW) (by rfl) (by kernel_rfl) ?_
            simp only [List.take_succ_cons, List.take_zero, List.drop_succ_cons, List.drop_zero]
            repeat (first
              | (refine HeadC.val (by rfl) ?_
                 apply Exists.intro
                 refine ⟨fun w' hw' => ?_, ?_⟩
                 · ((go_simp) <;> (try go_ints) <;> with_reducible rfl)
                 try simp only [Act.put, List.setIfInBounds_toArray, List.set_cons_zero, List.set_cons_succ])
              | (refine HeadC.shut (by rfl) ?_
                 try simp only [Act.put, List.setIfInBounds_toArray, List.set_cons_zero, List.set_cons_succ]))
            refine HeadC.nil ?_
            refine AllC.one 12 (by kernel_rfl) rfl ?_
            intro wg hg K hK
            replace hM := hM.of hg
            replace hown7 := own_below hown7 hg
            replace hgW := hgW.trans hg
            have q0 := (hM.cell 0).trans (show _ = some (.int .i64 0) from rfl)
            have q1 := (hM.cell 1).trans (show _ = some (.slice none 0 0) from rfl)
            have f0 := hM.frozen 0
            have f1 := hM.frozen 1
            have hml := hM.lt
            go_simp
            have hk4 := ((Ch.refl (At gm) wg).set_at 0 (.int .i64 xy.length)).set_at 1 (.slice A7 ps.length c7)
            have hgS : Grew w12 ((wg.setCell ⟨gm, 0, none⟩ (.int .i64 xy.length)).setCell ⟨gm, 1, none⟩ (.slice A7 ps.length c7)) := Below.trans (B := w12.heap.size) hgW (hk4.below hgW.size (fun i hi => by have h' : i = gm := hi; omega))
            refine hK.out _ _ hgS ?_
            try simp only [Act.put, List.setIfInBounds_toArray, List.set_cons_zero, List.set_cons_succ]
            replace hown7 := own_ch hown7 hk4 (fun i hi h => own_blk_ne hown7 hM (by decide) (by rw [hi]; exact congrArg some h))
            replace hM := (hM.set_ 0 (.int .i64 xy.length)).set_ 1 (.slice A7 ps.length c7)
            clear hK K hg hgW q0 q1 f0 f1 hml hk4
            generalize (wg.setCell ⟨gm, 0, none⟩ (.int .i64 xy.length)).setCell ⟨gm, 1, none⟩ (.slice A7 ps.length c7) = ws at *
            clear wg
            refine AllC.head 13 1 (fuel := 1) (by first | exact fun h k => Grew.trans h k | exact fun h k => cls_grew h k) (hgS) (by rfl) (by kernel_rfl) ?_
            simp only [List.take_succ_cons, List.take_zero, List.drop_succ_cons, List.drop_zero]
            repeat (first
              | (refine HeadC.val (by rfl) ?_
                 apply Exists.intro
                 refine ⟨fun w' hw' => ?_, ?_⟩
                 · ((go_simp) <;> (try go_ints) <;> with_reducible rfl)
                 try simp only [Act.put, List.setIfInBounds_toArray, List.set_cons_zero, List.set_cons_succ])
              | (refine HeadC.shut (by rfl) ?_
                 try simp only [Act.put, List.setIfInBounds_toArray, List.set_cons_zero, List.set_cons_succ]))
            refine HeadC.nil ?_
            refine AllC.tail 14 (by rfl) (by kernel_rfl) ?_
            intro wt hwt
            simp only [List.drop_succ_cons, List.drop_zero]
            replace hM := hM.of hwt
            replace hown7 := own_below hown7 hwt
            replace hgS := hgS.trans hwt
            clear hwt
            go_wp2_with fail
            go_meet
            obtain rfl := HXY.out
            exact ⟨gm, A7, c7, L7, l7, ps, rfl, rfl, rfl, hcu, hM, hown7, hgm, hgS⟩
        · refine ⟨_, rfl, fun K hK => ?_⟩
          go_simp
          have hga := hg.trans (grew_alloc wg (.cells #[.int .i64 0, .slice none 0 0] 31))
          replace hl := (hl.up (hga) (Nat.le_refl _)).more (Below.size (hga))
          have hM := Blk.new wg 31 #[.int .i64 0, .slice none 0 0]
          have hgm : w12.heap.size ≤ wg.heap.size := (hgW.trans hg).size
          replace hgW : Grew w12 (wg.alloc (.cells #[.int .i64 0, .slice none 0 0] 31)) := hgW.trans hga
          refine hK.out _ _ hgW ?_
          clear hK K hg hga
          try simp only [Act.put, List.setIfInBounds_toArray, List.set_cons_zero, List.set_cons_succ]
          generalize wg.alloc (.cells #[.int .i64 0, .slice none 0 0] 31) = wm at *
          generalize wg.heap.size = gm at *
          clear wg
          refine AllC.one 5 (by kernel_rfl) rfl ?_
          intro wg hg K hK
          go_simp
          refine (joined_three _ _ _ A1 A3 A4 c1 c3 c4 zs1 zs3 zs4 wg (hl.up hg (Nat.le_refl _)) (((hr1.up hgW (Nat.le_refl _)).more hgW.size).up hg (Nat.le_refl _)) (((hr3.up hgW (Nat.le_refl _)).more hgW.size).up hg (Nat.le_refl _)) (((hr4.up hgW (Nat.le_refl _)).more hgW.size).up hg (Nat.le_refl _)) hg.size (by omega)).mono ?_
          rintro e wj ⟨Bj, bj, rfl, hownj, hb⟩
          have hga := Grew.trans hg hb
          replace hM := hM.of (hga)
          replace hgW : Grew w12 wj := hgW.trans hga
          refine hK.out _ _ hgW ?_
          clear hK K hg hb hga hl
          try simp only [Act.put, List.setIfInBounds_toArray, List.set_cons_zero, List.set_cons_succ]
          have hxl : (zs1 ++ (zs3 ++ zs4)).length ≤ 200 := by simp only [List.length_append]; omega
          have Hzj : Hid (∀ z ∈ (zs1 ++ (zs3 ++ zs4)), 0 ≤ z ∧ z ≤ 255) := Lib.hid (fun z hz => by
            rw [List.mem_append] at hz
            rw [List.mem_append] at hz
            exact hz.elim (Hz1.out z) (fun hz => hz.elim (Hz3.out z) (Hz4.out z)))
          generalize hxy : (zs1 ++ (zs3 ++ zs4)) = xy at *
          have HXY := Lib.hid hxy
          clear hxy
          refine AllC.one 6 (by kernel_rfl) rfl ?_
          intro wg hg K hK
          go_simp
          have hcapj := (own_cap hownj).1
          have hrj := own_row hownj
          refine (build25_any c OK.out Bj bj _ xy wg (hrj.up hg (Nat.le_refl _)) hg.size Hzj.out (by omega) hcapj).mono ?_
          rintro e wb ⟨A7, c7, L7, l7, ps, rfl, hcu, hown7, _, _, hb⟩
          have hga := Grew.trans hg hb
          replace hM := hM.of (hga)
          have hbw : w12.heap.size ≤ wg.heap.size := (hgW.trans hg).size
          replace hown7 := own_mono hown7 hbw
          replace hgW : Grew w12 wb := hgW.trans hga
          refine hK.out _ _ hgW ?_
          clear hK K hg hb hga hownj hrj hcapj hbw
          try simp only [Act.put, List.setIfInBounds_toArray, List.set_cons_zero, List.set_cons_succ]
          have hps := bld_len OK.out hcu
          refine AllC.head 7 4 (fuel := 3) (by first | exact fun h k => Grew.trans h k | exact fun h k => cls_grew h k) (hgW) (by rfl) (by kernel_rfl) ?_
          simp only [List.take_succ_cons, List.take_zero, List.drop_succ_cons, List.drop_zero]
          repeat (first
            | (refine HeadC.val (by rfl) ?_
               apply Exists.intro
               refine ⟨fun w' hw' => ?_, ?_⟩
               · ((go_simp) <;> (try go_ints) <;> with_reducible rfl)
               try simp only [Act.put, List.setIfInBounds_toArray, List.set_cons_zero, List.set_cons_succ])
            | (refine HeadC.shut (by rfl) ?_
               try simp only [Act.put, List.setIfInBounds_toArray, List.set_cons_zero, List.set_cons_succ]))
          refine HeadC.nil ?_
          refine AllC.one 12 (by kernel_rfl) rfl ?_
          intro wg hg K hK
          replace hM := hM.of hg
          replace hown7 := own_below hown7 hg
          replace hgW := hgW.trans hg
          have q0 := (hM.cell 0).trans (show _ = some (.int .i64 0) from rfl)
          have q1 := (hM.cell 1).trans (show _ = some (.slice none 0 0) from rfl)
          have f0 := hM.frozen 0
          have f1 := hM.frozen 1
          have hml := hM.lt
          go_simp
          have hk4 := ((Ch.refl (At gm) wg).set_at 0 (.int .i64 xy.length)).set_at 1 (.slice A7 ps.length c7)
          have hgS : Grew w12 ((wg.setCell ⟨gm, 0, none⟩ (.int .i64 xy.length)).setCell ⟨gm, 1, none⟩ (.slice A7 ps.length c7)) := Below.trans (B := w12.heap.size) hgW (hk4.below hgW.size (fun i hi => by have h' : i = gm := hi; omega))
          refine hK.out _ _ hgS ?_
          try simp only [Act.put, List.setIfInBounds_toArray, List.set_cons_zero, List.set_cons_succ]
          replace hown7 := own_ch hown7 hk4 (fun i hi h => own_blk_ne hown7 hM (by decide) (by rw [hi]; exact congrArg some h))
          replace hM := (hM.set_ 0 (.int .i64 xy.length)).set_ 1 (.slice A7 ps.length c7)
          clear hK K hg hgW q0 q1 f0 f1 hml hk4
          generalize (wg.setCell ⟨gm, 0, none⟩ (.int .i64 xy.length)).setCell ⟨gm, 1, none⟩ (.slice A7 ps.length c7) = ws at *
          clear wg
          refine AllC.head 13 1 (fuel := 1) (by first | exact fun h k => Grew.trans h k | exact fun h k => cls_grew h k) (hgS) (by rfl) (by kernel_rfl) ?_
          simp only [List.take_succ_cons, List.take_zero, List.drop_succ_cons, List.drop_zero]
          repeat (first
            | (refine HeadC.val (by rfl) ?_
               apply Exists.intro
               refine ⟨fun w' hw' => ?_, ?_⟩
               · ((go_simp) <;> (try go_ints) <;> with_reducible rfl)
               try simp only [Act.put, List.setIfInBounds_toArray, List.set_cons_zero, List.set_cons_succ])
            | (refine HeadC.shut (by rfl) ?_
               try simp only [Act.put, List.setIfInBounds_toArray, List.set_cons_zero, List.set_cons_succ]))
          refine HeadC.nil ?_
          refine AllC.tail 14 (by rfl) (by kernel_rfl) ?_
          intro wt hwt
          simp only [List.drop_succ_cons, List.drop_zero]
          replace hM := hM.of hwt
          replace hown7 := own_below hown7 hwt
          replace hgS := hgS.trans hwt
          clear hwt
          go_wp2_with fail
          go_meet
          obtain rfl := HXY.out
          exact ⟨gm, A7, c7, L7, l7, ps, rfl, rfl, rfl, hcu, hM, hown7, hgm, hgS⟩
      · refine ⟨_, rfl, fun K hK => ?_⟩
        go_simp
        have hga := hg.trans (grew_alloc wg (.cells #[.int .i64 0, .slice none 0 0] 31))
        have hM := Blk.new wg 31 #[.int .i64 0, .slice none 0 0]
        have hgm : w12.heap.size ≤ wg.heap.size := (hgW.trans hg).size
        replace hgW : Grew w12 (wg.alloc (.cells #[.int .i64 0, .slice none 0 0] 31)) := hgW.trans hga
        refine hK.out _ _ hgW ?_
        clear hK K hg hga
        try simp only [Act.put, List.setIfInBounds_toArray, List.set_cons_zero, List.set_cons_succ]
        generalize wg.alloc (.cells #[.int .i64 0, .slice none 0 0] 31) = wm at *
        generalize wg.heap.size = gm at *
        clear wg
        refine AllC.one 4 (by kernel_rfl) rfl ?_
        intro wg hg K hK
        go_simp
        have hga := hg.trans (grew_alloc wg (.cells #[.slice A1 zs1.length c1, .slice A3 zs3.length c3, .slice A4 zs4.length c4] 34))
        replace hM := hM.of (hga)
        have hl := row_new (w := wg) (t := 34) (cs := #[.slice A1 zs1.length c1, .slice A3 zs3.length c3, .slice A4 zs4.length c4]) (B := (wg.alloc (.cells #[.slice A1 zs1.length c1, .slice A3 zs3.length c3, .slice A4 zs4.length c4] 34)).heap.size) (by simp)
        replace hgW : Grew w12 (wg.alloc (.cells #[.slice A1 zs1.length c1, .slice A3 zs3.length c3, .slice A4 zs4.length c4] 34)) := hgW.trans hga
        refine hK.out _ _ hgW ?_
        clear hK K hg hga
        try simp only [Act.put, List.setIfInBounds_toArray, List.set_cons_zero, List.set_cons_succ]
        generalize wg.alloc (.cells #[.slice A1 zs1.length c1, .slice A3 zs3.length c3, .slice A4 zs4.length c4] 34) = wa at *
        generalize wg.heap.size = gl at *
        clear wg
        refine AllC.one 5 (by kernel_rfl) rfl ?_
        intro wg hg K hK
        go_simp
        refine (joined_three _ _ _ A1 A3 A4 c1 c3 c4 zs1 zs3 zs4 wg (hl.up hg (Nat.le_refl _)) (((hr1.up hgW (Nat.le_refl _)).more hgW.size).up hg (Nat.le_refl _)) (((hr3.up hgW (Nat.le_refl _)).more hgW.size).up hg (Nat.le_refl _)) (((hr4.up hgW (Nat.le_refl _)).more hgW.size).up hg (Nat.le_refl _)) hg.size (by omega)).mono ?_
        rintro e wj ⟨Bj, bj, rfl, hownj, hb⟩
        have hga := Grew.trans hg hb
        replace hM := hM.of (hga)
        replace hgW : Grew w12 wj := hgW.trans hga
        refine hK.out _ _ hgW ?_
        clear hK K hg hb hga hl
        try simp only [Act.put, List.setIfInBounds_toArray, List.set_cons_zero, List.set_cons_succ]
        have hxl : (zs1 ++ (zs3 ++ zs4)).length ≤ 200 := by simp only [List.length_append]; omega
        have Hzj : Hid (∀ z ∈ (zs1 ++ (zs3 ++ zs4)), 0 ≤ z ∧ z ≤ 255) := Lib.hid (fun z hz => by
          rw [List.mem_append] at hz
          rw [List.mem_append] at hz
          exact hz.elim (Hz1.out z) (fun hz => hz.elim (Hz3.out z) (Hz4.out z)))
        generalize hxy : (zs1 ++ (zs3 ++ zs4)) = xy at *
        have HXY := Lib.hid hxy
        clear hxy
        refine AllC.one 6 (by kernel_rfl) rfl ?_
        intro wg hg K hK
        go_simp
        have hcapj := (own_cap hownj).1
        have hrj := own_row hownj
        refine (build25_any c OK.out Bj bj _ xy wg (hrj.up hg (Nat.le_refl _)) hg.size Hzj.out (by omega) hcapj).mono ?_
        rintro e wb ⟨A7, c7, L7, l7, ps, rfl, hcu, hown7, _, _, hb⟩
        have hga := Grew.trans hg hb
        replace hM := hM.of (hga)
        have hbw : w12.heap.size ≤ wg.heap.size := (hgW.trans hg).size
        replace hown7 := own_mono hown7 hbw
        replace hgW : Grew w12 wb := hgW.trans hga
        refine hK.out _ _ hgW ?_
        clear hK K hg hb hga hownj hrj hcapj hbw
        try simp only [Act.put, List.setIfInBounds_toArray, List.set_cons_zero, List.set_cons_succ]
        have hps := bld_len OK.out hcu
        refine AllC.head 7 4 (fuel := 3) (by first | exact fun h k => Grew.trans h k | exact fun h k => cls_grew h k) (hgW) (by rfl) (by kernel_rfl) ?_
        simp only [List.take_succ_cons, List.take_zero, List.drop_succ_cons, List.drop_zero]
        repeat (first
          | (refine HeadC.val (by rfl) ?_
             apply Exists.intro
             refine ⟨fun w' hw' => ?_, ?_⟩
             · ((go_simp) <;> (try go_ints) <;> with_reducible rfl)
             try simp only [Act.put, List.setIfInBounds_toArray, List.set_cons_zero, List.set_cons_succ])
          | (refine HeadC.shut (by rfl) ?_
             try simp only [Act.put, List.setIfInBounds_toArray, List.set_cons_zero, List.set_cons_succ]))
        refine HeadC.nil ?_
        refine AllC.one 12 (by kernel_rfl) rfl ?_
        intro wg hg K hK
        replace hM := hM.of hg
        replace hown7 := own_below hown7 hg
        replace hgW := hgW.trans hg
        have q0 := (hM.cell 0).trans (show _ = some (.int .i64 0) from rfl)
        have q1 := (hM.cell 1).trans (show _ = some (.slice none 0 0) from rfl)
        have f0 := hM.frozen 0
        have f1 := hM.frozen 1
        have hml := hM.lt
        go_simp
        have hk4 := ((Ch.refl (At gm) wg).set_at 0 (.int .i64 xy.length)).set_at 1 (.slice A7 ps.length c7)
        have hgS : Grew w12 ((wg.setCell ⟨gm, 0, none⟩ (.int .i64 xy.length)).setCell ⟨gm, 1, none⟩ (.slice A7 ps.length c7)) := Below.trans (B := w12.heap.size) hgW (hk4.below hgW.size (fun i hi => by have h' : i = gm := hi; omega))
        refine hK.out _ _ hgS ?_
        try simp only [Act.put, List.setIfInBounds_toArray, List.set_cons_zero, List.set_cons_succ]
        replace hown7 := own_ch hown7 hk4 (fun i hi h => own_blk_ne hown7 hM (by decide) (by rw [hi]; exact congrArg some h))
        replace hM := (hM.set_ 0 (.int .i64 xy.length)).set_ 1 (.slice A7 ps.length c7)
        clear hK K hg hgW q0 q1 f0 f1 hml hk4
        generalize (wg.setCell ⟨gm, 0, none⟩ (.int .i64 xy.length)).setCell ⟨gm, 1, none⟩ (.slice A7 ps.length c7) = ws at *
        clear wg
        refine AllC.head 13 1 (fuel := 1) (by first | exact fun h k => Grew.trans h k | exact fun h k => cls_grew h k) (hgS) (by rfl) (by kernel_rfl) ?_
        simp only [List.take_succ_cons, List.take_zero, List.drop_succ_cons, List.drop_zero]
        repeat (first
          | (refine HeadC.val (by rfl) ?_
             apply Exists.intro
             refine ⟨fun w' hw' => ?_, ?_⟩
             · ((go_simp) <;> (try go_ints) <;> with_reducible rfl)
             try simp only [Act.put, List.setIfInBounds_toArray, List.set_cons_zero, List.set_cons_succ])
          | (refine HeadC.shut (by rfl) ?_
             try simp only [Act.put, List.setIfInBounds_toArray, List.set_cons_zero, List.set_cons_succ]))
        refine HeadC.nil ?_
        refine AllC.tail 14 (by rfl) (by kernel_rfl) ?_
        intro wt hwt
        simp only [List.drop_succ_cons, List.drop_zero]
        replace hM := hM.of hwt
        replace hown7 := own_below hown7 hwt
        replace hgS := hgS.trans hwt
        clear hwt
        go_wp2_with fail
        go_meet
        obtain rfl := HXY.out
        exact ⟨gm, A7, c7, L7, l7, ps, rfl, rfl, rfl, hcu, hM, hown7, hgm, hgS⟩
    case rest =>
      obtain ⟨gn, An, cn, Ln, ln, qs, rfl, rfl, rfl, hcun, hMn, hownn, hgn, hgW⟩ := hcut
      obtain ⟨w13, hw13⟩ : ∃ w13, w13 = wc := ⟨_, rfl⟩
      subst hw13
      replace hC := hC.of hgW
      replace hr1 := (hr1.up hgW (Nat.le_refl _)).more (Below.size hgW)
      replace hr3 := (hr3.up hgW (Nat.le_refl _)).more (Below.size hgW)
      replace hr4 := (hr4.up hgW (Nat.le_refl _)).more (Below.size hgW)
      replace hMw := hMw.of hgW
      replace hownw := own_below hownw hgW
      replace hb3 := Grew.trans hb3 hgW
      clear hgW hgn d0 d1 d2 d3 d4
      have HCun := Lib.hid hcun
      have hpl := bld_len OK.out HCuw.out
      have hql := bld_len OK.out hcun
      have hl1 : (zs1 ++ (zs2 ++ zs4)).length ≤ 200 := by simp only [List.length_append]; omega
      have hl2 : (zs1 ++ (zs3 ++ zs4)).length ≤ 200 := by simp only [List.length_append]; omega
      have Hx2 : Hid (∀ z ∈ zs1 ++ (zs3 ++ zs4), 0 ≤ z ∧ z ≤ 255) := Lib.hid (fun z hz => by
        rw [List.mem_append] at hz
        rw [List.mem_append] at hz
        exact hz.elim (Hz1.out z) (fun hz => hz.elim (Hz3.out z) (Hz4.out z)))
      have HCk := Lib.hid (bld_chk OK.out hcun (by omega))
      have HHas := Lib.hid (fun k (hk : k < qs.length) e he hlt => edit_has OK.out HCuw.out hcun hk (e := e) he hlt)
      have HEl := Lib.hid (show (endsZ c (zs1 ++ (zs3 ++ zs4))).length = qs.length by
        have e := congrArg List.length hcun
        unfold pcsZ at e
        rw [List.length_map, cutsL_length] at e
        rw [endsZ_length, e])
      have HWp : Hid (∀ x ∈ idsOf psw, WfI x) := Lib.hid (fun x hx => by
        obtain ⟨p, hp, rfl⟩ := List.mem_map.1 hx
        exact idOf_wf (by have := (bld_mem (bld_flat OK.out HCuw.out) hp).2; omega))
      have HWq : Hid (∀ x ∈ idsOf qs, WfI x) := Lib.hid (fun x hx => by
        obtain ⟨p, hp, rfl⟩ := List.mem_map.1 hx
        exact idOf_wf (by have := (bld_mem (bld_flat OK.out HCun.out) hp).2; omega))
      have n0 := (hMn.cell 0).trans (show _ = some (.int .i64 (zs1 ++ (zs3 ++ zs4)).length) from rfl)
      have n1 := (hMn.cell 1).trans (show _ = some (.slice An qs.length cn) from rfl)
      have m0 := (hMw.cell 0).trans (show _ = some (.int .i64 (zs1 ++ (zs2 ++ zs4)).length) from rfl)
      have m1 := (hMw.cell 1).trans (show _ = some (.slice Aw psw.length cw) from rfl)
      have HM := missing25_any (zs1 ++ (zs3 ++ zs4)).length An cn w13.heap.size (idsOf qs) Aw cw (idsOf psw) w13 (own_row hownn) (own_row hownw) HWq.out HWp.out (Nat.le_refl _) (by rw [idsOf_length]; omega) (by rw [idsOf_length]; omega)
      have hml : misL (zs1 ++ (zs3 ++ zs4)).length (idsOf psw) (idsOf qs) = missL (idsOf psw) (idsOf qs) := by unfold misL; rw [if_pos HCk.out]
      rw [idsOf_length, idsOf_length, HCk.out, hml] at HM
      have HM := Lib.hid HM
      have hll := missL_len (idsOf psw) (idsOf qs) (idsOf qs).length (Nat.le_refl _)
      rw [List.take_length, idsOf_length] at hll
      clear hcun hml hMw hownw
      generalize hxy : zs1 ++ (zs3 ++ zs4) = xy at *
      have HXY := Lib.hid hxy
      clear hxy
      generalize missL (idsOf psw) (idsOf qs) = lost at *
      go_wp2_with fail
      refine HM.out.mono ?_
      clear HM m0 m1
      rintro e w14 ⟨A15, c15, rfl, hown15, hb⟩
      replace n1 := cell_up hb n1
      replace n0 := cell_up hb n0
      replace hC := hC.of hb
      replace hr1 := (hr1.up hb (Nat.le_refl _)).more (Below.size hb)
      replace hr3 := (hr3.up hb (Nat.le_refl _)).more (Below.size hb)
      replace hr4 := (hr4.up hb (Nat.le_refl _)).more (Below.size hb)
      replace hMn := hMn.of hb
      replace hownn := own_below hownn hb
      replace hb3 := Grew.trans hb3 hb
      clear hb
      obtain ⟨d0, d1, d2, d3, d4⟩ := hC.cells
      go_wp2_with fail
      refine wp_region_g 11 (by kernel_rfl) ?_
      refine AllC.head 0 4 (fuel := 8) (by first | exact fun h k => Grew.trans h k | exact fun h k => cls_grew h k) (grew_drew _) (by rfl) (by kernel_rfl) ?_
      simp only [List.take_succ_cons, List.take_zero, List.drop_succ_cons, List.drop_zero]
      repeat (first
        | (refine HeadC.val (by rfl) ?_
           apply Exists.intro
           refine ⟨fun w' hw' => ?_, ?_⟩
           · (have hf_0 := cell_up hw' d0; have hf_1 := cell_up hw' d1; have hf_2 := cell_up hw' d2; have hf_3 := cell_up hw' d3; (go_simp) <;> (try go_ints) <;> with_reducible rfl)
           try simp only [Act.put, List.setIfInBounds_toArray, List.set_cons_zero, List.set_cons_succ])
        | (refine HeadC.shut (by rfl) ?_
           try simp only [Act.put, List.setIfInBounds_toArray, List.set_cons_zero, List.set_cons_succ]))
      refine HeadC.nil ?_
      refine AllC.one 4 (by kernel_rfl) rfl ?_
      intro wg hg K hK
      go_simp
      have hl := row_new (w := wg) (t := 34) (cs := #[.slice A1 zs1.length c1, .slice A3 zs3.length c3, .slice A4 zs4.length c4]) (B := (wg.alloc (.cells #[.slice A1 zs1.length c1, .slice A3 zs3.length c3, .slice A4 zs4.length c4] 34)).heap.size) (by simp)
      have hga : Grew w14 (wg.alloc (.cells #[.slice A1 zs1.length c1, .slice A3 zs3.length c3, .slice A4 zs4.length c4] 34)) := ((grew_drew _).trans hg).trans (grew_alloc _ _)
      refine hK.out _ _ hga ?_
      clear hK K hg
      try simp only [Act.put, List.setIfInBounds_toArray, List.set_cons_zero, List.set_cons_succ]
      generalize wg.alloc (.cells #[.slice A1 zs1.length c1, .slice A3 zs3.length c3, .slice A4 zs4.length c4] 34) = wa at *
      generalize wg.heap.size = gl at *
      clear wg
      refine AllC.one 5 (by kernel_rfl) rfl ?_
      intro wg hg K hK
      go_simp
      have HJ := joined_three (some ⟨gl, 0, none⟩) 3 wa.heap.size A1 A3 A4 c1 c3 c4 zs1 zs3 zs4 wg (hl.up hg (Nat.le_refl _)) (((hr1.up hga (Nat.le_refl _)).more hga.size).up hg (Nat.le_refl _)) (((hr3.up hga (Nat.le_refl _)).more hga.size).up hg (Nat.le_refl _)) (((hr4.up hga (Nat.le_refl _)).more hga.size).up hg (Nat.le_refl _)) hg.size (by omega)
      rw [HXY.out] at HJ
      refine HJ.mono ?_
      rintro e wj ⟨Bj, bj, rfl, hownj, hb⟩
      have hg7 : Grew w14 wj := (hga.trans hg).trans hb
      refine hK.out _ _ hg7 ?_
      clear hK K hg hb hga hl
      try simp only [Act.put, List.setIfInBounds_toArray, List.set_cons_zero, List.set_cons_succ]
      have hrj := own_row hownj
      refine AllC.one 6 (by kernel_rfl) rfl ?_
      intro wg hg K hK
      go_simp
      refine (endsC_any c OK.out Bj bj _ xy wg (hrj.up hg (Nat.le_refl _)) hg.size Hx2.out (by omega)).mono ?_
      rintro e we ⟨A17, c17, rfl, hown17, hb⟩
      replace hg7 : Grew w14 we := (hg7.trans hg).trans hb
      refine hK.out _ _ hg7 ?_
      clear hK K hg hb hrj hownj
      try simp only [Act.put, List.setIfInBounds_toArray, List.set_cons_zero, List.set_cons_succ]
      refine AllC.head 7 4 (fuel := 1) (by first | exact fun h k => Grew.trans h k | exact fun h k => cls_grew h k) (hg7) (by rfl) (by kernel_rfl) ?_
      simp only [List.take_succ_cons, List.take_zero, List.drop_succ_cons, List.drop_zero]
      repeat (first
        | (refine HeadC.val (by rfl) ?_
           apply Exists.intro
           refine ⟨fun w' hw' => ?_, ?_⟩
           · ((go_simp) <;> (try go_ints) <;> with_reducible rfl)
           try simp only [Act.put, List.setIfInBounds_toArray, List.set_cons_zero, List.set_cons_succ])
        | (refine HeadC.shut (by rfl) ?_
           try simp only [Act.put, List.setIfInBounds_toArray, List.set_cons_zero, List.set_cons_succ]))
      refine HeadC.nil ?_
      refine AllC.tail 11 (by rfl) (by kernel_rfl) ?_
      intro wt hwt
      simp only [List.drop_succ_cons, List.drop_zero]
      replace hg7 := hg7.trans hwt
      replace hown17 := own_below hown17 hwt
      replace n1 := cell_up hg7 n1
      replace hown15 := own_below hown15 hg7
      replace hownn := own_below hownn hg7
      replace hb3 := Grew.trans hb3 hg7
      clear hg7 hwt d0 d1 d2 d3 d4 hC hMn n0 hr1 hr3 hr4
      rw [HEl.out] at hown17 ⊢
      go_wp2_with fail
      refine (known25_any _).mono ?_
      rintro e wk ⟨rfl, hb⟩
      replace n1 := cell_up hb n1
      replace hown15 := own_below hown15 hb
      replace hown17 := own_below hown17 hb
      replace hownn := own_below hownn hb
      replace hb3 := Grew.trans hb3 hb
      have hr15 := own_row hown15
      have hr17 := own_row hown17
      have hrn := own_row hownn
      clear hb hown15 hown17 hownn
      go_wp2_with fail
      go_loopw [19] (fun i wr => ∃ k : Nat, k ≤ qs.length ∧ i = .int .i64 k ∧ Grew wk wr) (fun i _ => qs.length - (intOf i).toNat)
      case atStart => exact ⟨0, Nat.zero_le _, rfl, Grew.refl _⟩
      case round =>
        obtain ⟨k, hk, rfl, hgr⟩ := hrel
        replace n1 := cell_up hgr n1
        by_cases hlt : k < qs.length
        · obtain ⟨ad, rfl, _, hce⟩ := nat_at (hr17.up hgr (Nat.le_refl _)) (k := k) (by rw [HEl.out]; exact hlt)
          obtain ⟨ad2, rfl, _, x0, x1⟩ := ids_at (hrn.up hgr (Nat.le_refl _)) (k := k) (by rw [idsOf_length]; exact hlt)
          have hxe := List.getElem?_eq_getElem (show k < (endsZ c xy).length by rw [HEl.out]; exact hlt)
          have HX := Lib.hid hxe
          have hid : (idsOf qs)[k]'(by rw [idsOf_length]; exact hlt) = idOf qs[k].zs := by simp [idsOf]
          rw [hid] at x0 x1
          have HN := Lib.hid (fun (h : (endsZ c xy)[k]'(by rw [HEl.out]; exact hlt) < zs1.length) => HHas.out k hlt _ HX.out h)
          clear hxe hid HX
          generalize (endsZ c xy)[k]'(by rw [HEl.out]; exact hlt) = x at *
          by_cases hx : x < zs1.length
          · have hno := HN.out hx
            clear HN
            unfold idOf at hno x0 x1
            simp only at x0 x1
            have hgs := hgr.size
            have HHs := refHas25_any A15 c15 wk.heap.size lost (sumZ qs[k].zs, (qs[k].zs.length : Int)) wr (hr15.up hgr (Nat.le_refl _)) hgs (by omega)
            rw [decide_eq_false hno] at HHs
            have HHs := Lib.hid HHs
            clear hno hgs
            have hx2 : (x : Int) < (zs1.length : Int) := by omega
            generalize qs[k].zs = ys at *
            go_wp2_with fail
            refine HHs.out.mono ?_
            rintro e w6 ⟨rfl, hg⟩
            have hg2 := Grew.trans hgr hg
            go_wp2_with fail
            go_roundw
            case rel => exact ⟨k + 1, by omega, by go_num, hg2⟩
            case measure => simp [intOf]; omega
          · have g1 : ¬ ((x : Int) < (zs1.length : Int)) := by omega
            clear HN
            go_wp2_with fail
            go_ret
            exact ⟨ret_bool rfl, Grew.trans hb3 hgr⟩
        · obtain rfl : k = qs.length := by omega
          go_wp2_with fail
          go_ret
          exact ⟨ret_bool rfl, Grew.trans hb3 hgr⟩

end Go.Proofs.Ytnjhipnfhapngaa
