/-
  stockyardlaw24.ChunkerEdit returns true.
-/
import Derived.Test.YtnbbbmmpkjiejaaCutPre
namespace Go.Proofs.Ytnbbbmmpkjiejaa
set_option linter.unusedVariables false
set_option linter.unusedSimpArgs false
set_option linter.unnecessarySimpa false
open Go.RowKit
attribute [local go_sem ↓] Go.wp_at_zero Go.wp_at_succ

set_option maxHeartbeats 1000000 in
theorem lawCEdit_any (A : Option Addr) (cap : Nat) (ls : List Int) (w : World) (hr : Row w w.heap.size A (ls.map (.int .i64))) (hz : ∀ z ∈ ls, -9223372036854775808 ≤ z ∧ z ≤ 9223372036854775807) (hm : ls.length ≤ 9223372036854775807) :
    Calls Try.prog 6 #[.slice A ls.length cap] w fun e w' => e = .returned (.bool true) ∧ Below w.heap.size w w' := by
  have hT := Tp.new (cap := cap) hr (Nat.le_refl _) hz hm
  have g0 := grew_alloc w (.cells #[.slice A ls.length cap, .int .i64 0] 25)
  have hch0 : Ch (At w.heap.size) w (w.alloc (.cells #[.slice A ls.length cap, .int .i64 0] 25)) := Ch.of_below g0
  clear hz g0 hr
  go_enter Try.func6, Try.ntmps6
  go_wp2_with fail
  generalize w.alloc (.cells #[.slice A ls.length cap, .int .i64 0] 25) = w1 at *
  refine (made24_any _ _ _ _ hT (by omega)).mono ?_
  rintro e w2 ⟨c, rfl, hsm, hT2, hch⟩
  have HS := Lib.hid hsm
  have hch2 := hch0.trans hch
  clear hT hch hch0 hsm
  unfold cutV
  have hC := CutAt.new w2 c
  have gC := grew_alloc w2 (.cells #[.int .i64 c.mn, .int .i64 c.mx, .int .i64 c.wn, .int .u64 c.mask] 28)
  have hT3 := hT2.of gC
  have hch3 := hch2.next gC
  have htl := hT2.lt
  clear gC hT2 hch2
  go_wp2_with fail
  generalize w2.alloc (.cells #[.int .i64 c.mn, .int .i64 c.mx, .int .i64 c.wn, .int .u64 c.mask] 28) = w3 at *
  generalize w2.heap.size = gc at *
  clear w2
  have hb3 : Below w.heap.size w w3 := hch3.below (Nat.le_refl _) (fun i hi => by rw [hi]; exact Nat.le_refl _)
  have hne : Hid (¬ At w.heap.size gc) := Lib.hid (by show ¬ gc = _; omega)
  clear hch3
  have htl1 := hT3.lt
  refine (text24_any _ _ _ 90 _ hT3 (by omega) (by omega)).mono ?_
  rintro e w4 ⟨A1, c1, zs1, rfl, hlen1, hz, hown1, hT4, hch⟩
  have Hz1 := Lib.hid hz
  replace hC := hC.ch hch hne.out
  replace hb3 : Below w.heap.size w w4 := Below.trans (B := w.heap.size) hb3 (hch.below hb3.size (fun i hi => by rw [hi]; exact Nat.le_refl _))
  replace hT3 := hT4
  clear hch hz hT4
  have hbase1 := Lib.hid (own_lt hown1)
  go_wp2_with fail
  have htl2 := hT3.lt
  refine (text24_any _ _ _ 9 _ hT3 (by omega) (by omega)).mono ?_
  rintro e w5 ⟨A2, c2, zs2, rfl, hlen2, hz, hown2, hT4, hch⟩
  have Hz2 := Lib.hid hz
  replace hC := hC.ch hch hne.out
  replace hown1 := own_ch hown1 hch (fun b hb => by have := hbase1.out b hb; show ¬ b = _; omega)
  replace hb3 : Below w.heap.size w w5 := Below.trans (B := w.heap.size) hb3 (hch.below hb3.size (fun i hi => by rw [hi]; exact Nat.le_refl _))
  replace hT3 := hT4
  clear hch hz hT4
  have hbase2 := Lib.hid (own_lt hown2)
  go_wp2_with fail
  have htl3 := hT3.lt
  refine (text24_any _ _ _ 9 _ hT3 (by omega) (by omega)).mono ?_
  rintro e w6 ⟨A3, c3, zs3, rfl, hlen3, hz, hown3, hT4, hch⟩
  have Hz3 := Lib.hid hz
  replace hC := hC.ch hch hne.out
  replace hown1 := own_ch hown1 hch (fun b hb => by have := hbase1.out b hb; show ¬ b = _; omega)
  replace hown2 := own_ch hown2 hch (fun b hb => by have := hbase2.out b hb; show ¬ b = _; omega)
  replace hb3 : Below w.heap.size w w6 := Below.trans (B := w.heap.size) hb3 (hch.below hb3.size (fun i hi => by rw [hi]; exact Nat.le_refl _))
  replace hT3 := hT4
  clear hch hz hT4
  have hbase3 := Lib.hid (own_lt hown3)
  go_wp2_with fail
  have htl4 := hT3.lt
  refine (text24_any _ _ _ 40 _ hT3 (by omega) (by omega)).mono ?_
  rintro e w7 ⟨A4, c4, zs4, rfl, hlen4, hz, hown4, hT4, hch⟩
  have Hz4 := Lib.hid hz
  replace hC := hC.ch hch hne.out
  replace hown1 := own_ch hown1 hch (fun b hb => by have := hbase1.out b hb; show ¬ b = _; omega)
  replace hown2 := own_ch hown2 hch (fun b hb => by have := hbase2.out b hb; show ¬ b = _; omega)
  replace hown3 := own_ch hown3 hch (fun b hb => by have := hbase3.out b hb; show ¬ b = _; omega)
  replace hb3 : Below w.heap.size w w7 := Below.trans (B := w.heap.size) hb3 (hch.below hb3.size (fun i hi => by rw [hi]; exact Nat.le_refl _))
  replace hT3 := hT4
  clear hch hz hT4
  have hbase4 := Lib.hid (own_lt hown4)
  have hcap1 := (own_cap hown1).1
  have hcap2 := (own_cap hown2).1
  have hcap3 := (own_cap hown3).1
  have hcap4 := (own_cap hown4).1
  have hr1 := own_row hown1
  have hr2 := own_row hown2
  have hr3 := own_row hown3
  have hr4 := own_row hown4
  have OK := Lib.hid HS.out.ok
  clear HS hown1 hown2 hown3 hown4 hbase1 hbase2 hbase3 hbase4 hT3 hne htl1 htl2 htl3 htl4
  go_wp2_with fail
  obtain ⟨d0, d1, d2, d3, d4⟩ := hC.cells
  refine wp_region_g 11 (by kernel_rfl) ?_
  refine AllC.head 0 4 (fuel := 8) (by first | exact fun h k => Grew.trans h k | exact fun h k => cls_grew h k) (grew_drew _) (by rfl) (by kernel_rfl) ?_
  simp only [List.take_succ_cons, List.take_zero, List.drop_succ_cons, List.drop_zero]
  repeat (first
    | (refine HeadC.val (by rfl) ?_
       apply Exists.intro
       refine ⟨fun w' hw' => ?_, ?_⟩
       · (have hf_0 := cell_up hw' d0; have hf_1 := cell_up hw' d1; have hf_2 := cell_up hw' d2; have hf_3 := cell_up hw' d3; (go_simp) <;> (try go_ints) <;> with_reducible rfl)
       try simp only [Act.put, List.setIfInBounds_toArray, List.set_cons_zero, List.set_cons_succ])
    | (refine HeadC.shut (by rfl) ?_
       try simp only [Act.put, List.setIfInBounds_toArray, List.set_cons_zero, List.set_cons_succ]))
  refine HeadC.nil ?_
  refine AllC.one 4 (by kernel_rfl) rfl ?_
  intro wg hg K hK
  go_simp
  have hl := row_new (w := wg) (t := 30) (cs := #[.slice A1 zs1.length c1, .slice A2 zs2.length c2, .slice A4 zs4.length c4]) (B := (wg.alloc (.cells #[.slice A1 zs1.length c1, .slice A2 zs2.length c2, .slice A4 zs4.length c4] 30)).heap.size) (by simp)
  have hga : Grew w7 (wg.alloc (.cells #[.slice A1 zs1.length c1, .slice A2 zs2.length c2, .slice A4 zs4.length c4] 30)) := ((grew_drew _).trans hg).trans (grew_alloc _ _)
  refine hK.out _ _ hga ?_
  clear hK K hg
  try simp only [Act.put, List.setIfInBounds_toArray, List.set_cons_zero, List.set_cons_succ]
  generalize wg.alloc (.cells #[.slice A1 zs1.length c1, .slice A2 zs2.length c2, .slice A4 zs4.length c4] 30) = wa at *
  generalize wg.heap.size = gl at *
  clear wg
  refine AllC.one 5 (by kernel_rfl) rfl ?_
  intro wg hg K hK
  go_simp
  refine (joined_three _ _ _ A1 A2 A4 c1 c2 c4 zs1 zs2 zs4 wg (hl.up hg (Nat.le_refl _)) (((hr1.up hga (Nat.le_refl _)).more hga.size).up hg (Nat.le_refl _)) (((hr2.up hga (Nat.le_refl _)).more hga.size).up hg (Nat.le_refl _)) (((hr4.up hga (Nat.le_refl _)).more hga.size).up hg (Nat.le_refl _)) hg.size (by omega)).mono ?_
  rintro e w_5 ⟨B_5, b_5, rfl, hownj, hb⟩
  have hg7 : Grew w7 w_5 := (hga.trans hg).trans hb
  refine hK.out _ _ hg7 ?_
  clear hK K hg hb hga hl
  try simp only [Act.put, List.setIfInBounds_toArray, List.set_cons_zero, List.set_cons_succ]
  have hxl5 : (zs1 ++ (zs2 ++ zs4)).length ≤ 200 := by simp only [List.length_append]; omega
  have Hz_5 : Hid (∀ z ∈ zs1 ++ (zs2 ++ zs4), 0 ≤ z ∧ z ≤ 255) := Lib.hid (fun z hz => by
    rw [List.mem_append] at hz
    rw [List.mem_append] at hz
    exact hz.elim (Hz1.out z) (fun hz => hz.elim (Hz2.out z) (Hz4.out z)))
  generalize hxy : zs1 ++ (zs2 ++ zs4) = xy5 at hownj hxl5 Hz_5 ⊢
  have HXY5 := Lib.hid hxy
  clear hxy
  have hrj := own_row hownj
  refine AllC.one 6 (by kernel_rfl) rfl ?_
  intro wg hg K hK
  go_simp
  refine (ends24_at c OK.out B_5 b_5 _ xy5 wg (hrj.up hg (Nat.le_refl _)) hg.size Hz_5.out (by omega)).mono ?_
  rintro e we_5 ⟨A_5, c_5, rfl, hown_5, hb⟩
  replace hg7 : Grew w7 we_5 := (hg7.trans hg).trans hb
  refine hK.out _ _ hg7 ?_
  clear hK K hg hb hrj hownj
  try simp only [Act.put, List.setIfInBounds_toArray, List.set_cons_zero, List.set_cons_succ]
  refine AllC.head 7 4 (fuel := 1) (by first | exact fun h k => Grew.trans h k | exact fun h k => cls_grew h k) (hg7) (by rfl) (by kernel_rfl) ?_
  simp only [List.take_succ_cons, List.take_zero, List.drop_succ_cons, List.drop_zero]
  repeat (first
    | (refine HeadC.val (by rfl) ?_
       apply Exists.intro
       refine ⟨fun w' hw' => ?_, ?_⟩
       · ((go_simp) <;> (try go_ints) <;> with_reducible rfl)
       try simp only [Act.put, List.setIfInBounds_toArray, List.set_cons_zero, List.set_cons_succ])
    | (refine HeadC.shut (by rfl) ?_
       try simp only [Act.put, List.setIfInBounds_toArray, List.set_cons_zero, List.set_cons_succ]))
  refine HeadC.nil ?_
  refine AllC.tail 11 (by rfl) (by kernel_rfl) ?_
  intro w8 hwt
  simp only [List.drop_succ_cons, List.drop_zero]
  replace hg7 := hg7.trans hwt
  replace hr1 := (hr1.up hg7 (Nat.le_refl _)).more hg7.size
  replace hr3 := (hr3.up hg7 (Nat.le_refl _)).more hg7.size
  replace hr4 := (hr4.up hg7 (Nat.le_refl _)).more hg7.size
  replace hown_5 := own_below hown_5 hwt
  replace hC := hC.of hg7
  replace hb3 : Grew w w8 := Grew.trans hb3 hg7
  clear hg7 hwt d0 d1 d2 d3 d4
  have q5 := ends_len OK.out xy5
  go_wp2_with fail
  obtain ⟨d0, d1, d2, d3, d4⟩ := hC.cells
  refine wp_region_g 11 (by kernel_rfl) ?_
  refine AllC.head 0 4 (fuel := 8) (by first | exact fun h k => Grew.trans h k | exact fun h k => cls_grew h k) (grew_drew _) (by rfl) (by kernel_rfl) ?_
  simp only [List.take_succ_cons, List.take_zero, List.drop_succ_cons, List.drop_zero]
  repeat (first
    | (refine HeadC.val (by rfl) ?_
       apply Exists.intro
       refine ⟨fun w' hw' => ?_, ?_⟩
       · (have hf_0 := cell_up hw' d0; have hf_1 := cell_up hw' d1; have hf_2 := cell_up hw' d2; have hf_3 := cell_up hw' d3; (go_simp) <;> (try go_ints) <;> with_reducible rfl)
       try simp only [Act.put, List.setIfInBounds_toArray, List.set_cons_zero, List.set_cons_succ])
    | (refine HeadC.shut (by rfl) ?_
       try simp only [Act.put, List.setIfInBounds_toArray, List.set_cons_zero, List.set_cons_succ]))
  refine HeadC.nil ?_
  refine AllC.one 4 (by kernel_rfl) rfl ?_
  intro wg hg K hK
  go_simp
  have hl := row_new (w := wg) (t := 30) (cs := #[.slice A1 zs1.length c1, .slice A3 zs3.length c3, .slice A4 zs4.length c4]) (B := (wg.alloc (.cells #[.slice A1 zs1.length c1, .slice A3 zs3.length c3, .slice A4 zs4.length c4] 30)).heap.size) (by simp)
  have hga : Grew w8 (wg.alloc (.cells #[.slice A1 zs1.length c1, .slice A3 zs3.length c3, .slice A4 zs4.length c4] 30)) := ((grew_drew _).trans hg).trans (grew_alloc _ _)
  refine hK.out _ _ hga ?_
  clear hK K hg
  try simp only [Act.put, List.setIfInBounds_toArray, List.set_cons_zero, List.set_cons_succ]
  generalize wg.alloc (.cells #[.slice A1 zs1.length c1, .slice A3 zs3.length c3, .slice A4 zs4.length c4] 30) = wa at *
  generalize wg.heap.size = gl at *
  clear wg
  refine AllC.one 5 (by kernel_rfl) rfl ?_
  intro wg hg K hK
  go_simp
  refine (joined_three _ _ _ A1 A3 A4 c1 c3 c4 zs1 zs3 zs4 wg (hl.up hg (Nat.le_refl _)) (((hr1.up hga (Nat.le_refl _)).more hga.size).up hg (Nat.le_refl _)) (((hr3.up hga (Nat.le_refl _)).more hga.size).up hg (Nat.le_refl _)) (((hr4.up hga (Nat.le_refl _)).more hga.size).up hg (Nat.le_refl _)) hg.size (by omega)).mono ?_
  rintro e w_6 ⟨B_6, b_6, rfl, hownj, hb⟩
  have hg7 : Grew w8 w_6 := (hga.trans hg).trans hb
  refine hK.out _ _ hg7 ?_
  clear hK K hg hb hga hl
  try simp only [Act.put, List.setIfInBounds_toArray, List.set_cons_zero, List.set_cons_succ]
  have hxl6 : (zs1 ++ (zs3 ++ zs4)).length ≤ 200 := by simp only [List.length_append]; omega
  have Hz_6 : Hid (∀ z ∈ zs1 ++ (zs3 ++ zs4), 0 ≤ z ∧ z ≤ 255) := Lib.hid (fun z hz => by
    rw [List.mem_append] at hz
    rw [List.mem_append] at hz
    exact hz.elim (Hz1.out z) (fun hz => hz.elim (Hz3.out z) (Hz4.out z)))
  generalize hxy : zs1 ++ (zs3 ++ zs4) = xy6 at hownj hxl6 Hz_6 ⊢
  have HXY6 := Lib.hid hxy
  clear hxy
  have hrj := own_row hownj
  refine AllC.one 6 (by kernel_rfl) rfl ?_
  intro wg hg K hK
  go_simp
  refine (ends24_at c OK.out B_6 b_6 _ xy6 wg (hrj.up hg (Nat.le_refl _)) hg.size Hz_6.out (by omega)).mono ?_
  rintro e we_6 ⟨A_6, c_6, rfl, hown_6, hb⟩
  replace hg7 : Grew w8 we_6 := (hg7.trans hg).trans hb
  refine hK.out _ _ hg7 ?_
  clear hK K hg hb hrj hownj
  try simp only [Act.put, List.setIfInBounds_toArray, List.set_cons_zero, List.set_cons_succ]
  refine AllC.head 7 4 (fuel := 1) (by first | exact fun h k => Grew.trans h k | exact fun h k => cls_grew h k) (hg7) (by rfl) (by kernel_rfl) ?_
  simp only [List.take_succ_cons, List.take_zero, List.drop_succ_cons, List.drop_zero]
  repeat (first
    | (refine HeadC.val (by rfl) ?_
       apply Exists.intro
       refine ⟨fun w' hw' => ?_, ?_⟩
       · ((go_simp) <;> (try go_ints) <;> with_reducible rfl)
       try simp only [Act.put, List.setIfInBounds_toArray, List.set_cons_zero, List.set_cons_succ])
    | (refine HeadC.shut (by rfl) ?_
       try simp only [Act.put, List.setIfInBounds_toArray, List.set_cons_zero, List.set_cons_succ]))
  refine HeadC.nil ?_
  refine AllC.tail 11 (by rfl) (by kernel_rfl) ?_
  intro w9 hwt
  simp only [List.drop_succ_cons, List.drop_zero]
  replace hg7 := hg7.trans hwt
  replace hown_5 := own_below hown_5 hg7
  replace hown_6 := own_below hown_6 hwt
  replace hC := hC.of hg7
  replace hb3 : Grew w w9 := Grew.trans hb3 hg7
  clear hg7 hwt d0 d1 d2 d3 d4
  have q6 := ends_len OK.out xy6
  clear hr1 hr2 hr3 hr4 hC
  go_wp2_with fail
  refine (known24_any _).mono ?_
  rintro e wk ⟨rfl, hb⟩
  have hr5 := own_row (own_below hown_5 hb)
  have hr6 := own_row (own_below hown_6 hb)
  replace hb3 := Grew.trans hb3 hb
  clear hb hown_5 hown_6
  have E1 := Lib.hid (fun k (h : k < (endsZ c xy5).length) => ends_lt OK.out h)
  have E2 := Lib.hid (fun k (h : k < (endsZ c xy6).length) => ends_lt OK.out h)
  have Hc : Hid (∀ k e, (endsZ c xy5)[k]? = some e → e < zs1.length → (endsZ c xy6)[k]? = some e) := Lib.hid (fun k e he h => by
    rw [← HXY6.out]
    rw [← HXY5.out] at he
    exact endsZ_common OK.out k zs1 _ _ _ he (.inl h))
  generalize endsZ c xy6 = ys at *
  generalize endsZ c xy5 = xs at *
  go_wp2_with fail
  go_loopw [13] (fun i wr => (∃ k : Nat, k ≤ xs.length ∧ i = .int .i64 k) ∧ Drawn wk wr) (fun i _ => xs.length - (intOf i).toNat)
  case atStart => exact ⟨⟨0, Nat.zero_le _, rfl⟩, Drawn.refl _⟩
  case round =>
    obtain ⟨⟨k, hk, rfl⟩, hd⟩ := hrel
    by_cases hlt : k < xs.length
    · obtain ⟨ad5, rfl, hb5', hc5⟩ := nat_at (hr5.keep (w' := wr) fun p _ => hd.cell p) hlt
      have u1 := E1.out k hlt
      have hxe := List.getElem?_eq_getElem hlt
      have HX := Lib.hid hxe
      clear hxe
      generalize xs[k] = x at *
      by_cases hx : x < zs1.length
      · have hy := Hc.out k x HX.out hx
        have hlt2 : k < ys.length := by
          rcases Nat.lt_or_ge k ys.length with h | h
          · exact h
          · rw [List.getElem?_eq_none h] at hy; cases hy
        obtain ⟨ad6, rfl, hb6', hc6⟩ := nat_at (hr6.keep (w' := wr) fun p _ => hd.cell p) hlt2
        rw [List.getElem?_eq_getElem hlt2] at hy
        injection hy with hy
        rw [hy] at hc6
        clear hy HX
        have g1 : decide ((k : Int) ≥ (ys.length : Int)) = false := by simp; omega
        go_wp2_with fail
        go_quiet (fail)
        go_wp2
        go_roundw
        case rel => exact ⟨⟨k + 1, by omega, by go_num⟩, hd.drewN _⟩
        case measure => simp [intOf]; omega
      · have g1 : ¬ ((x : Int) < (zs1.length : Int)) := by omega
        clear HX
        go_wp2_with fail
        go_ret
        exact ⟨ret_bool rfl, Grew.trans hb3 (hd.below _)⟩
    · go_wp2_with fail
      go_ret
      exact ⟨ret_bool rfl, Grew.trans hb3 (hd.below _)⟩

end Go.Proofs.Ytnbbbmmpkjiejaa
