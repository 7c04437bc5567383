/-
  stockyardlaw24.ChunkerPrefix returns true.
-/
import Derived.Test.YtnbbbmmpkjiejaaCutPre
namespace Go.Proofs.Ytnbbbmmpkjiejaa
set_option linter.unusedVariables false
set_option linter.unusedSimpArgs false
set_option linter.unnecessarySimpa false
open Go.RowKit
attribute [local go_sem ↓] Go.wp_at_zero Go.wp_at_succ

set_option maxHeartbeats 1000000 in
theorem lawCPrefix_any (A : Option Addr) (cap : Nat) (ls : List Int) (w : World) (hr : Row w w.heap.size A (ls.map (.int .i64))) (hz : ∀ z ∈ ls, -9223372036854775808 ≤ z ∧ z ≤ 9223372036854775807) (hm : ls.length ≤ 9223372036854775807) :
    Calls Try.prog 4 #[.slice A ls.length cap] w fun e w' => e = .returned (.bool true) ∧ Below w.heap.size w w' := by
  have hT := Tp.new (cap := cap) hr (Nat.le_refl _) hz hm
  have g0 := grew_alloc w (.cells #[.slice A ls.length cap, .int .i64 0] 25)
  have hch0 : Ch (At w.heap.size) w (w.alloc (.cells #[.slice A ls.length cap, .int .i64 0] 25)) := Ch.of_below g0
  clear hz g0 hr
  go_enter Try.func4, Try.ntmps4
  go_wp2_with fail
  generalize w.alloc (.cells #[.slice A ls.length cap, .int .i64 0] 25) = w1 at *
  refine (made24_any _ _ _ _ hT (by omega)).mono ?_
  rintro e w2 ⟨c, rfl, hsm, hT2, hch⟩
  have HS := Lib.hid hsm
  have hch2 := hch0.trans hch
  clear hT hch hch0 hsm
  unfold cutV
  have hC := CutAt.new w2 c
  have gC := grew_alloc w2 (.cells #[.int .i64 c.mn, .int .i64 c.mx, .int .i64 c.wn, .int .u64 c.mask] 28)
  have hT3 := hT2.of gC
  have hch3 := hch2.next gC
  have htl := hT2.lt
  clear gC hT2 hch2
  go_wp2_with fail
  generalize w2.alloc (.cells #[.int .i64 c.mn, .int .i64 c.mx, .int .i64 c.wn, .int .u64 c.mask] 28) = w3 at *
  generalize w2.heap.size = gc at *
  clear w2
  have hb3 : Below w.heap.size w w3 := hch3.below (Nat.le_refl _) (fun i hi => by rw [hi]; exact Nat.le_refl _)
  have hne : Hid (¬ At w.heap.size gc) := Lib.hid (by show ¬ gc = _; omega)
  clear hch3
  have htl1 := hT3.lt
  refine (text24_any _ _ _ 90 _ hT3 (by omega) (by omega)).mono ?_
  rintro e w4 ⟨A1, c1, zs1, rfl, hlen1, hz, hown1, hT4, hch⟩
  have Hz1 := Lib.hid hz
  replace hC := hC.ch hch hne.out
  replace hb3 : Below w.heap.size w w4 := Below.trans (B := w.heap.size) hb3 (hch.below hb3.size (fun i hi => by rw [hi]; exact Nat.le_refl _))
  replace hT3 := hT4
  clear hch hz hT4
  have hbase1 := Lib.hid (own_lt hown1)
  go_wp2_with fail
  have htl2 := hT3.lt
  refine (text24_any _ _ _ 40 _ hT3 (by omega) (by omega)).mono ?_
  rintro e w5 ⟨A2, c2, zs2, rfl, hlen2, hz, hown2, hT4, hch⟩
  have Hz2 := Lib.hid hz
  replace hC := hC.ch hch hne.out
  replace hown1 := own_ch hown1 hch (fun b hb => by have := hbase1.out b hb; show ¬ b = _; omega)
  replace hb3 : Below w.heap.size w w5 := Below.trans (B := w.heap.size) hb3 (hch.below hb3.size (fun i hi => by rw [hi]; exact Nat.le_refl _))
  replace hT3 := hT4
  clear hch hz hT4
  have hbase2 := Lib.hid (own_lt hown2)
  have hcap1 := (own_cap hown1).1
  have hcap2 := (own_cap hown2).1
  have hr1 := own_row hown1
  have hr2 := own_row hown2
  obtain ⟨d0, d1, d2, d3, d4⟩ := hC.cells
  have OK := Lib.hid HS.out.ok
  clear HS hown1 hown2 hbase1 hbase2 hT3 hne htl1 htl2
  have q := ends_len OK.out zs1
  go_wp2_with fail
  refine (ends24_at c OK.out A1 c1 _ zs1 _ hr1 (Nat.le_refl _) Hz1.out (by omega)).mono ?_
  rintro e w6 ⟨A3, c3, rfl, hown3, hb⟩
  replace hC := hC.of hb
  replace hr1 := (hr1.up hb (Nat.le_refl _)).more hb.size
  replace hr2 := (hr2.up hb (Nat.le_refl _)).more hb.size
  replace hb3 : Grew w w6 := Grew.trans hb3 hb
  clear hb d0 d1 d2 d3 d4
  go_wp2_with fail
  obtain ⟨d0, d1, d2, d3, d4⟩ := hC.cells
  refine wp_region_g 10 (by kernel_rfl) ?_
  refine AllC.head 0 3 (fuel := 8) (by first | exact fun h k => Grew.trans h k | exact fun h k => cls_grew h k) (grew_drew _) (by rfl) (by kernel_rfl) ?_
  simp only [List.take_succ_cons, List.take_zero, List.drop_succ_cons, List.drop_zero]
  repeat (first
    | (refine HeadC.val (by rfl) ?_
       apply Exists.intro
       refine ⟨fun w' hw' => ?_, ?_⟩
       · (have hf_0 := cell_up hw' d0; have hf_1 := cell_up hw' d1; have hf_2 := cell_up hw' d2; have hf_3 := cell_up hw' d3; (go_simp) <;> (try go_ints) <;> with_reducible rfl)
       try simp only [Act.put, List.setIfInBounds_toArray, List.set_cons_zero, List.set_cons_succ])
    | (refine HeadC.shut (by rfl) ?_
       try simp only [Act.put, List.setIfInBounds_toArray, List.set_cons_zero, List.set_cons_succ]))
  refine HeadC.nil ?_
  refine AllC.one 3 (by kernel_rfl) rfl ?_
  intro wg hg K hK
  go_simp
  have hl := row_new (w := wg) (t := 30) (cs := #[.slice A1 zs1.length c1, .slice A2 zs2.length c2]) (B := (wg.alloc (.cells #[.slice A1 zs1.length c1, .slice A2 zs2.length c2] 30)).heap.size) (by simp)
  have hga : Grew w6 (wg.alloc (.cells #[.slice A1 zs1.length c1, .slice A2 zs2.length c2] 30)) := ((grew_drew _).trans hg).trans (grew_alloc _ _)
  refine hK.out _ _ hga ?_
  clear hK K hg
  try simp only [Act.put, List.setIfInBounds_toArray, List.set_cons_zero, List.set_cons_succ]
  generalize wg.alloc (.cells #[.slice A1 zs1.length c1, .slice A2 zs2.length c2] 30) = wa at *
  generalize wg.heap.size = gl at *
  clear wg
  refine AllC.one 4 (by kernel_rfl) rfl ?_
  intro wg hg K hK
  go_simp
  refine (joined_two _ _ _ A1 A2 c1 c2 zs1 zs2 wg (hl.up hg (Nat.le_refl _)) (((hr1.up hga (Nat.le_refl _)).more hga.size).up hg (Nat.le_refl _)) (((hr2.up hga (Nat.le_refl _)).more hga.size).up hg (Nat.le_refl _)) hg.size (by omega)).mono ?_
  rintro e w_4 ⟨B_4, b_4, rfl, hownj, hb⟩
  have hg7 : Grew w6 w_4 := (hga.trans hg).trans hb
  refine hK.out _ _ hg7 ?_
  clear hK K hg hb hga hl
  try simp only [Act.put, List.setIfInBounds_toArray, List.set_cons_zero, List.set_cons_succ]
  have hxl4 : (zs1 ++ zs2).length ≤ 200 := by simp only [List.length_append]; omega
  have Hz_4 : Hid (∀ z ∈ zs1 ++ zs2, 0 ≤ z ∧ z ≤ 255) := Lib.hid (fun z hz => by
    rw [List.mem_append] at hz
    exact hz.elim (Hz1.out z) (Hz2.out z))
  generalize hxy : zs1 ++ zs2 = xy4 at hownj hxl4 Hz_4 ⊢
  have HXY4 := Lib.hid hxy
  clear hxy
  have hrj := own_row hownj
  refine AllC.one 5 (by kernel_rfl) rfl ?_
  intro wg hg K hK
  go_simp
  refine (ends24_at c OK.out B_4 b_4 _ xy4 wg (hrj.up hg (Nat.le_refl _)) hg.size Hz_4.out (by omega)).mono ?_
  rintro e we_4 ⟨A_4, c_4, rfl, hown_4, hb⟩
  replace hg7 : Grew w6 we_4 := (hg7.trans hg).trans hb
  refine hK.out _ _ hg7 ?_
  clear hK K hg hb hrj hownj
  try simp only [Act.put, List.setIfInBounds_toArray, List.set_cons_zero, List.set_cons_succ]
  refine AllC.head 6 4 (fuel := 1) (by first | exact fun h k => Grew.trans h k | exact fun h k => cls_grew h k) (hg7) (by rfl) (by kernel_rfl) ?_
  simp only [List.take_succ_cons, List.take_zero, List.drop_succ_cons, List.drop_zero]
  repeat (first
    | (refine HeadC.val (by rfl) ?_
       apply Exists.intro
       refine ⟨fun w' hw' => ?_, ?_⟩
       · ((go_simp) <;> (try go_ints) <;> with_reducible rfl)
       try simp only [Act.put, List.setIfInBounds_toArray, List.set_cons_zero, List.set_cons_succ])
    | (refine HeadC.shut (by rfl) ?_
       try simp only [Act.put, List.setIfInBounds_toArray, List.set_cons_zero, List.set_cons_succ]))
  refine HeadC.nil ?_
  refine AllC.tail 10 (by rfl) (by kernel_rfl) ?_
  intro wt hwt
  simp only [List.drop_succ_cons, List.drop_zero]
  replace hg7 := hg7.trans hwt
  replace hown3 := own_below hown3 hg7
  replace hown_4 := own_below hown_4 hwt
  replace hC := hC.of hg7
  replace hb3 : Grew w wt := Grew.trans hb3 hg7
  clear hg7 hwt d0 d1 d2 d3 d4
  have q2 := ends_len OK.out xy4
  have hmore : (endsZ c zs1).length ≤ (endsZ c xy4).length := by rw [← HXY4.out]; exact endsZ_more OK.out zs1 zs2
  go_wp2_with fail
  refine (known24_any _).mono ?_
  rintro e w9 ⟨rfl, hb⟩
  have hr3 := own_row (own_below hown3 hb)
  have hr5 := own_row (own_below hown_4 hb)
  replace hb3 := Grew.trans hb3 hb
  clear hb hown3 hown_4
  have E1 := Lib.hid (fun k (h : k < (endsZ c zs1).length) => ends_lt OK.out h)
  have Hc : Hid (∀ k, (h : k + 1 < (endsZ c zs1).length) → (endsZ c xy4)[k]? = (endsZ c zs1)[k]?) := Lib.hid (fun k h => by
    rw [← HXY4.out]
    rw [List.getElem?_eq_getElem (show k < (endsZ c zs1).length by omega)]
    have h1 : (endsZ c (zs1 ++ []))[k]? = some (endsZ c zs1)[k] := by rw [List.append_nil, List.getElem?_eq_getElem (by omega)]
    exact endsZ_common OK.out k zs1 [] zs2 _ h1 (.inr ⟨(ends_lt OK.out (by omega)).2, by rw [List.append_nil]; exact h⟩))
  generalize endsZ c xy4 = ys at *
  generalize endsZ c zs1 = xs at *
  go_wp2_with fail
  go_loopw [11] (fun i wr => (∃ k : Nat, k ≤ xs.length ∧ i = .int .i64 k) ∧ Drawn w9 wr) (fun i _ => xs.length - (intOf i).toNat)
  case atStart => exact ⟨⟨0, Nat.zero_le _, rfl⟩, Drawn.refl _⟩
  case round =>
    obtain ⟨⟨k, hk, rfl⟩, hd⟩ := hrel
    by_cases hlt : k + 1 < xs.length
    · obtain ⟨ad3, rfl, hb3', hc3⟩ := nat_at (hr3.keep (w' := wr) fun p _ => hd.cell p) (show k < xs.length by omega)
      obtain ⟨ad5, rfl, hb5', hc5⟩ := nat_at (hr5.keep (w' := wr) fun p _ => hd.cell p) (show k < ys.length by omega)
      have hv := Hc.out k hlt
      rw [List.getElem?_eq_getElem (show k < ys.length by omega), List.getElem?_eq_getElem (show k < xs.length by omega)] at hv
      injection hv with hv
      rw [hv] at hc5
      have u1 := E1.out k (by omega)
      clear hv
      generalize xs[k] = x at *
      go_wp2_with fail
      go_quiet (fail)
      go_wp2
      go_roundw
      case rel => exact ⟨⟨k + 1, by omega, by go_num⟩, hd.drewN _⟩
      case measure => simp [intOf]; omega
    · have hlt2 : (xs.length : Int) ≤ (k : Int) + 1 := by omega
      go_wp2_with fail
      go_ret
      exact ⟨ret_bool rfl, Grew.trans hb3 (hd.below _)⟩

end Go.Proofs.Ytnbbbmmpkjiejaa
