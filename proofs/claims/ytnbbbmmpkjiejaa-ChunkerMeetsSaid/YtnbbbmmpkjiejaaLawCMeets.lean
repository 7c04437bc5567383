/-
  stockyardlaw24.ChunkerMeets returns true.
-/
import Derived.Test.YtnbbbmmpkjiejaaCutPre
import Derived.Deep.DeepCutAuto
namespace Go.Proofs.Ytnbbbmmpkjiejaa
set_option linter.unusedVariables false
set_option linter.unusedSimpArgs false
set_option linter.unnecessarySimpa false
open Go.RowKit
attribute [local go_sem ↓] Go.wp_at_zero Go.wp_at_succ

def bdB (c : CutZ) (l : List Int) (p : Nat) : Bool := decide (p = 0) || decide (p ∈ endsZ c l)
theorem bdB_iff {c : CutZ} {l : List Int} {p : Nat} : bdB c l p = true ↔ bdZ c l p := by unfold bdB bdZ; simp
theorem bdB_zero {c : CutZ} {l : List Int} : bdB c l 0 = true := by simp [bdB]
theorem bdB_pos {c : CutZ} {l : List Int} {p : Nat} (h : ¬ p = 0) : bdB c l p = decide (p ∈ endsZ c l) := by simp [bdB, h]

set_option maxHeartbeats 1000000 in
theorem has_any (A : Option Addr) (cap : Nat) (l : List Nat) (n : Nat) (w : World) (hr : Row w w.heap.size A (natV l)) (hm : l.length ≤ 1048576) (hn : n ≤ 1048576) :
    Calls Try.prog 20 #[.slice A l.length cap, .int .i64 n] w fun e w' => e = .returned (.bool (decide (n ∈ l))) ∧ w = w' := by
  go_enter Try.func20, Try.ntmps20
  go_wp2_with fail
  go_loopw [5] (fun i wr => ∃ k : Nat, k ≤ l.length ∧ i = .int .i64 k ∧ Hid (∀ x ∈ l.take k, x ≠ n) ∧ w = wr) (fun i _ => l.length - (intOf i).toNat)
  case atStart => exact ⟨0, Nat.zero_le _, rfl, Lib.hid (by simp), rfl⟩
  case round =>
    obtain ⟨k, hk, rfl, HT, rfl⟩ := hrel
    by_cases hlt : k < l.length
    · obtain ⟨ad, rfl, hb, hc⟩ := nat_at hr hlt
      by_cases he : l[k] = n
      · have HE := Lib.hid (show true = decide (n ∈ l) by rw [eq_comm, decide_eq_true_eq, ← he]; exact List.getElem_mem hlt)
        rw [he] at hc
        clear he
        go_wp2_with fail
        go_ret
        exact ⟨ret_bool HE.out, rfl⟩
      · have HE : Hid (∀ x ∈ l.take (k + 1), x ≠ n) := Lib.hid (fun x hx => by
          rw [List.take_add_one, List.mem_append] at hx
          rcases hx with h | h
          · exact HT.out x h
          · rw [List.getElem?_eq_getElem hlt] at h
            simp at h
            rw [h]; exact he)
        have hne : ((l[k] : Int) == (n : Int)) = false := by rw [beq_eq_false_iff_ne]; omega
        clear he
        generalize l[k] = x at *
        go_wp2_with fail
        go_roundw
        case rel => exact ⟨k + 1, by omega, by go_num, HE, by first | rfl | trivial⟩
        case measure => simp [intOf]; omega
    · go_wp2_with fail
      go_ret
      exact ⟨ret_bool (by rw [eq_comm, decide_eq_false_iff_not]; intro h; exact HT.out n (by rw [List.take_of_length_le (by omega)]; exact h) rfl), rfl⟩

set_option maxHeartbeats 1000000 in
theorem lawCMeets_any (A : Option Addr) (cap : Nat) (ls : List Int) (w : World) (hr : Row w w.heap.size A (ls.map (.int .i64))) (hz : ∀ z ∈ ls, -9223372036854775808 ≤ z ∧ z ≤ 9223372036854775807) (hm : ls.length ≤ 9223372036854775807) :
    Calls Try.prog 5 #[.slice A ls.length cap] w fun e w' => e = .returned (.bool true) ∧ Below w.heap.size w w' := by
  have hT := Tp.new (cap := cap) hr (Nat.le_refl _) hz hm
  have g0 := grew_alloc w (.cells #[.slice A ls.length cap, .int .i64 0] 25)
  have hch0 : Ch (At w.heap.size) w (w.alloc (.cells #[.slice A ls.length cap, .int .i64 0] 25)) := Ch.of_below g0
  clear hz g0 hr
  go_enter Try.func5, Try.ntmps5
  go_wp2_with fail
  generalize w.alloc (.cells #[.slice A ls.length cap, .int .i64 0] 25) = w1 at *
  refine (made24_any _ _ _ _ hT (by omega)).mono ?_
  rintro e w2 ⟨c, rfl, hsm, hT2, hch⟩
  have HS := Lib.hid hsm
  have hch2 := hch0.trans hch
  clear hT hch hch0 hsm
  unfold cutV
  have hC := CutAt.new w2 c
  have gC := grew_alloc w2 (.cells #[.int .i64 c.mn, .int .i64 c.mx, .int .i64 c.wn, .int .u64 c.mask] 28)
  have hT3 := hT2.of gC
  have hch3 := hch2.next gC
  have htl := hT2.lt
  clear gC hT2 hch2
  go_wp2_with fail
  generalize w2.alloc (.cells #[.int .i64 c.mn, .int .i64 c.mx, .int .i64 c.wn, .int .u64 c.mask] 28) = w3 at *
  generalize w2.heap.size = gc at *
  clear w2
  have hb3 : Below w.heap.size w w3 := hch3.below (Nat.le_refl _) (fun i hi => by rw [hi]; exact Nat.le_refl _)
  have hne : Hid (¬ At w.heap.size gc) := Lib.hid (by show ¬ gc = _; omega)
  clear hch3
  have htl1 := hT3.lt
  refine (text24_any _ _ _ 40 _ hT3 (by omega) (by omega)).mono ?_
  rintro e w4 ⟨A1, c1, zs1, rfl, hlen1, hz, hown1, hT4, hch⟩
  have Hz1 := Lib.hid hz
  replace hC := hC.ch hch hne.out
  replace hb3 : Below w.heap.size w w4 := Below.trans (B := w.heap.size) hb3 (hch.below hb3.size (fun i hi => by rw [hi]; exact Nat.le_refl _))
  replace hT3 := hT4
  clear hch hz hT4
  have hbase1 := Lib.hid (own_lt hown1)
  go_wp2_with fail
  have htl2 := hT3.lt
  refine (text24_any _ _ _ 40 _ hT3 (by omega) (by omega)).mono ?_
  rintro e w5 ⟨A2, c2, zs2, rfl, hlen2, hz, hown2, hT4, hch⟩
  have Hz2 := Lib.hid hz
  replace hC := hC.ch hch hne.out
  replace hown1 := own_ch hown1 hch (fun b hb => by have := hbase1.out b hb; show ¬ b = _; omega)
  replace hb3 : Below w.heap.size w w5 := Below.trans (B := w.heap.size) hb3 (hch.below hb3.size (fun i hi => by rw [hi]; exact Nat.le_refl _))
  replace hT3 := hT4
  clear hch hz hT4
  have hbase2 := Lib.hid (own_lt hown2)
  go_wp2_with fail
  have htl3 := hT3.lt
  refine (text24_any _ _ _ 90 _ hT3 (by omega) (by omega)).mono ?_
  rintro e w6 ⟨A3, c3, zs3, rfl, hlen3, hz, hown3, hT4, hch⟩
  have Hz3 := Lib.hid hz
  replace hC := hC.ch hch hne.out
  replace hown1 := own_ch hown1 hch (fun b hb => by have := hbase1.out b hb; show ¬ b = _; omega)
  replace hown2 := own_ch hown2 hch (fun b hb => by have := hbase2.out b hb; show ¬ b = _; omega)
  replace hb3 : Below w.heap.size w w6 := Below.trans (B := w.heap.size) hb3 (hch.below hb3.size (fun i hi => by rw [hi]; exact Nat.le_refl _))
  replace hT3 := hT4
  clear hch hz hT4
  have hbase3 := Lib.hid (own_lt hown3)
  have hcap1 := (own_cap hown1).1
  have hcap2 := (own_cap hown2).1
  have hcap3 := (own_cap hown3).1
  have hr1 := own_row hown1
  have hr2 := own_row hown2
  have hr3 := own_row hown3
  have OK := Lib.hid HS.out.ok
  clear HS hown1 hown2 hown3 hbase1 hbase2 hbase3 hT3 hne htl1 htl2 htl3
  go_wp2_with fail
  obtain ⟨d0, d1, d2, d3, d4⟩ := hC.cells
  refine wp_region_g 10 (by kernel_rfl) ?_
  refine AllC.head 0 3 (fuel := 8) (by first | exact fun h k => Grew.trans h k | exact fun h k => cls_grew h k) (grew_drew _) (by rfl) (by kernel_rfl) ?_
  simp only [List.take_succ_cons, List.take_zero, List.drop_succ_cons, List.drop_zero]
  repeat (first
    | (refine HeadC.val (by rfl) ?_
       apply Exists.intro
       refine ⟨fun w' hw' => ?_, ?_⟩
       · (have hf_0 := cell_up hw' d0; have hf_1 := cell_up hw' d1; have hf_2 := cell_up hw' d2; have hf_3 := cell_up hw' d3; (go_simp) <;> (try go_ints) <;> with_reducible rfl)
       try simp only [Act.put, List.setIfInBounds_toArray, List.set_cons_zero, List.set_cons_succ])
    | (refine HeadC.shut (by rfl) ?_
       try simp only [Act.put, List.setIfInBounds_toArray, List.set_cons_zero, List.set_cons_succ]))
  refine HeadC.nil ?_
  refine AllC.one 3 (by kernel_rfl) rfl ?_
  intro wg hg K hK
  go_simp
  have hl := row_new (w := wg) (t := 30) (cs := #[.slice A1 zs1.length c1, .slice A3 zs3.length c3]) (B := (wg.alloc (.cells #[.slice A1 zs1.length c1, .slice A3 zs3.length c3] 30)).heap.size) (by simp)
  have hga : Grew w6 (wg.alloc (.cells #[.slice A1 zs1.length c1, .slice A3 zs3.length c3] 30)) := ((grew_drew _).trans hg).trans (grew_alloc _ _)
  refine hK.out _ _ hga ?_
  clear hK K hg
  try simp only [Act.put, List.setIfInBounds_toArray, List.set_cons_zero, List.set_cons_succ]
  generalize wg.alloc (.cells #[.slice A1 zs1.length c1, .slice A3 zs3.length c3] 30) = wa at *
  generalize wg.heap.size = gl at *
  clear wg
  refine AllC.one 4 (by kernel_rfl) rfl ?_
  intro wg hg K hK
  go_simp
  refine (joined_two _ _ _ A1 A3 c1 c3 zs1 zs3 wg (hl.up hg (Nat.le_refl _)) (((hr1.up hga (Nat.le_refl _)).more hga.size).up hg (Nat.le_refl _)) (((hr3.up hga (Nat.le_refl _)).more hga.size).up hg (Nat.le_refl _)) hg.size (by omega)).mono ?_
  rintro e w_5 ⟨B_5, b_5, rfl, hownj, hb⟩
  have hg7 : Grew w6 w_5 := (hga.trans hg).trans hb
  refine hK.out _ _ hg7 ?_
  clear hK K hg hb hga hl
  try simp only [Act.put, List.setIfInBounds_toArray, List.set_cons_zero, List.set_cons_succ]
  have hxl5 : (zs1 ++ zs3).length ≤ 200 := by simp only [List.length_append]; omega
  have Hz_5 : Hid (∀ z ∈ zs1 ++ zs3, 0 ≤ z ∧ z ≤ 255) := Lib.hid (fun z hz => by
    rw [List.mem_append] at hz
    exact hz.elim (Hz1.out z) (Hz3.out z))
  generalize hxy : zs1 ++ zs3 = xy5 at hownj hxl5 Hz_5 ⊢
  have HXY5 := Lib.hid hxy
  clear hxy
  have hrj := own_row hownj
  refine AllC.one 5 (by kernel_rfl) rfl ?_
  intro wg hg K hK
  go_simp
  refine (ends24_at c OK.out B_5 b_5 _ xy5 wg (hrj.up hg (Nat.le_refl _)) hg.size Hz_5.out (by omega)).mono ?_
  rintro e we_5 ⟨A_5, c_5, rfl, hown_5, hb⟩
  replace hg7 : Grew w6 we_5 := (hg7.trans hg).trans hb
  refine hK.out _ _ hg7 ?_
  clear hK K hg hb hrj hownj
  try simp only [Act.put, List.setIfInBounds_toArray, List.set_cons_zero, List.set_cons_succ]
  refine AllC.head 6 4 (fuel := 1) (by first | exact fun h k => Grew.trans h k | exact fun h k => cls_grew h k) (hg7) (by rfl) (by kernel_rfl) ?_
  simp only [List.take_succ_cons, List.take_zero, List.drop_succ_cons, List.drop_zero]
  repeat (first
    | (refine HeadC.val (by rfl) ?_
       apply Exists.intro
       refine ⟨fun w' hw' => ?_, ?_⟩
       · ((go_simp) <;> (try go_ints) <;> with_reducible rfl)
       try simp only [Act.put, List.setIfInBounds_toArray, List.set_cons_zero, List.set_cons_succ])
    | (refine HeadC.shut (by rfl) ?_
       try simp only [Act.put, List.setIfInBounds_toArray, List.set_cons_zero, List.set_cons_succ]))
  refine HeadC.nil ?_
  refine AllC.tail 10 (by rfl) (by kernel_rfl) ?_
  intro w8 hwt
  simp only [List.drop_succ_cons, List.drop_zero]
  replace hg7 := hg7.trans hwt
  replace hr2 := (hr2.up hg7 (Nat.le_refl _)).more hg7.size
  replace hr3 := (hr3.up hg7 (Nat.le_refl _)).more hg7.size
  replace hown_5 := own_below hown_5 hwt
  replace hC := hC.of hg7
  replace hb3 : Grew w w8 := Grew.trans hb3 hg7
  clear hg7 hwt d0 d1 d2 d3 d4
  have q5 := ends_len OK.out xy5
  go_wp2_with fail
  obtain ⟨d0, d1, d2, d3, d4⟩ := hC.cells
  refine wp_region_g 10 (by kernel_rfl) ?_
  refine AllC.head 0 3 (fuel := 8) (by first | exact fun h k => Grew.trans h k | exact fun h k => cls_grew h k) (grew_drew _) (by rfl) (by kernel_rfl) ?_
  simp only [List.take_succ_cons, List.take_zero, List.drop_succ_cons, List.drop_zero]
  repeat (first
    | (refine HeadC.val (by rfl) ?_
       apply Exists.intro
       refine ⟨fun w' hw' => ?_, ?_⟩
       · (have hf_0 := cell_up hw' d0; have hf_1 := cell_up hw' d1; have hf_2 := cell_up hw' d2; have hf_3 := cell_up hw' d3; (go_simp) <;> (try go_ints) <;> with_reducible rfl)
       try simp only [Act.put, List.setIfInBounds_toArray, List.set_cons_zero, List.set_cons_succ])
    | (refine HeadC.shut (by rfl) ?_
       try simp only [Act.put, List.setIfInBounds_toArray, List.set_cons_zero, List.set_cons_succ]))
  refine HeadC.nil ?_
  refine AllC.one 3 (by kernel_rfl) rfl ?_
  intro wg hg K hK
  go_simp
  have hl := row_new (w := wg) (t := 30) (cs := #[.slice A2 zs2.length c2, .slice A3 zs3.length c3]) (B := (wg.alloc (.cells #[.slice A2 zs2.length c2, .slice A3 zs3.length c3] 30)).heap.size) (by simp)
  have hga : Grew w8 (wg.alloc (.cells #[.slice A2 zs2.length c2, .slice A3 zs3.length c3] 30)) := ((grew_drew _).trans hg).trans (grew_alloc _ _)
  refine hK.out _ _ hga ?_
  clear hK K hg
  try simp only [Act.put, List.setIfInBounds_toArray, List.set_cons_zero, List.set_cons_succ]
  generalize wg.alloc (.cells #[.slice A2 zs2.length c2, .slice A3 zs3.length c3] 30) = wa at *
  generalize wg.heap.size = gl at *
  clear wg
  refine AllC.one 4 (by kernel_rfl) rfl ?_
  intro wg hg K hK
  go_simp
  refine (joined_two _ _ _ A2 A3 c2 c3 zs2 zs3 wg (hl.up hg (Nat.le_refl _)) (((hr2.up hga (Nat.le_refl _)).more hga.size).up hg (Nat.le_refl _)) (((hr3.up hga (Nat.le_refl _)).more hga.size).up hg (Nat.le_refl _)) hg.size (by omega)).mono ?_
  rintro e w_6 ⟨B_6, b_6, rfl, hownj, hb⟩
  have hg7 : Grew w8 w_6 := (hga.trans hg).trans hb
  refine hK.out _ _ hg7 ?_
  clear hK K hg hb hga hl
  try simp only [Act.put, List.setIfInBounds_toArray, List.set_cons_zero, List.set_cons_succ]
  have hxl6 : (zs2 ++ zs3).length ≤ 200 := by simp only [List.length_append]; omega
  have Hz_6 : Hid (∀ z ∈ zs2 ++ zs3, 0 ≤ z ∧ z ≤ 255) := Lib.hid (fun z hz => by
    rw [List.mem_append] at hz
    exact hz.elim (Hz2.out z) (Hz3.out z))
  generalize hxy : zs2 ++ zs3 = xy6 at hownj hxl6 Hz_6 ⊢
  have HXY6 := Lib.hid hxy
  clear hxy
  have hrj := own_row hownj
  refine AllC.one 5 (by kernel_rfl) rfl ?_
  intro wg hg K hK
  go_simp
  refine (ends24_at c OK.out B_6 b_6 _ xy6 wg (hrj.up hg (Nat.le_refl _)) hg.size Hz_6.out (by omega)).mono ?_
  rintro e we_6 ⟨A_6, c_6, rfl, hown_6, hb⟩
  replace hg7 : Grew w8 we_6 := (hg7.trans hg).trans hb
  refine hK.out _ _ hg7 ?_
  clear hK K hg hb hrj hownj
  try simp only [Act.put, List.setIfInBounds_toArray, List.set_cons_zero, List.set_cons_succ]
  refine AllC.head 6 4 (fuel := 1) (by first | exact fun h k => Grew.trans h k | exact fun h k => cls_grew h k) (hg7) (by rfl) (by kernel_rfl) ?_
  simp only [List.take_succ_cons, List.take_zero, List.drop_succ_cons, List.drop_zero]
  repeat (first
    | (refine HeadC.val (by rfl) ?_
       apply Exists.intro
       refine ⟨fun w' hw' => ?_, ?_⟩
       · ((go_simp) <;> (try go_ints) <;> with_reducible rfl)
       try simp only [Act.put, List.setIfInBounds_toArray, List.set_cons_zero, List.set_cons_succ])
    | (refine HeadC.shut (by rfl) ?_
       try simp only [Act.put, List.setIfInBounds_toArray, List.set_cons_zero, List.set_cons_succ]))
  refine HeadC.nil ?_
  refine AllC.tail 10 (by rfl) (by kernel_rfl) ?_
  intro w9 hwt
  simp only [List.drop_succ_cons, List.drop_zero]
  replace hg7 := hg7.trans hwt
  replace hown_5 := own_below hown_5 hg7
  replace hown_6 := own_below hown_6 hwt
  replace hC := hC.of hg7
  replace hb3 : Grew w w9 := Grew.trans hb3 hg7
  clear hg7 hwt d0 d1 d2 d3 d4
  have q6 := ends_len OK.out xy6
  clear hr1 hr2 hr3 hC
  go_wp2_with fail
  refine (known24_any _).mono ?_
  rintro e wk ⟨rfl, hb⟩
  have hr5 := own_row (own_below hown_5 hb)
  have hr6 := own_row (own_below hown_6 hb)
  replace hb3 := Grew.trans hb3 hb
  clear hb hown_5 hown_6
  have Hc : Hid (∀ p q, p ≤ q → bdB c xy5 (p + zs1.length) = true → bdB c xy6 (p + zs2.length) = true → bdB c xy5 (q + zs1.length) = bdB c xy6 (q + zs2.length)) := Lib.hid (fun p q hpq h1 h2 => by
    rw [bdB_iff, ← HXY5.out] at h1
    rw [bdB_iff, ← HXY6.out] at h2
    have := bdZ_meets OK.out h1 h2 hpq
    rw [HXY5.out, HXY6.out, ← bdB_iff, ← bdB_iff] at this
    exact Bool.eq_iff_iff.2 this)
  have D5 : Hid (∀ p, ¬ p = 0 → bdB c xy5 p = decide (p ∈ endsZ c xy5)) := Lib.hid (fun p h => bdB_pos h)
  have D6 : Hid (∀ p, ¬ p = 0 → bdB c xy6 p = decide (p ∈ endsZ c xy6)) := Lib.hid (fun p h => bdB_pos h)
  have Z5 : Hid (bdB c xy5 0 = true) := Lib.hid bdB_zero
  have Z6 : Hid (bdB c xy6 0 = true) := Lib.hid bdB_zero
  generalize endsZ c xy6 = ys at *
  generalize endsZ c xy5 = xs at *
  generalize bdB c xy6 = g6 at *
  generalize bdB c xy5 = g5 at *
  have HA := Lib.hid (fun n (h : n ≤ 1048576) => has_any A_5 c_5 xs n wk hr5 (by omega) h)
  have HB := Lib.hid (fun n (h : n ≤ 1048576) => has_any A_6 c_6 ys n wk hr6 (by omega) h)
  go_wp2_with fail
  go_loopw [12, 13] (fun m i wr => ∃ (p : Nat) (met : Bool), p ≤ zs3.length + 1 ∧ i = .int .i64 p ∧ m = .bool met ∧ Hid (met = true → ∃ p0, p0 ≤ p ∧ g5 (p0 + zs1.length) = true ∧ g6 (p0 + zs2.length) = true) ∧ wk = wr) (fun _ i _ => zs3.length + 1 - (intOf i).toNat)
  case atStart => exact ⟨0, false, Nat.zero_le _, rfl, rfl, Lib.hid (fun h => by cases h), rfl⟩
  case round =>
    obtain ⟨p, met, hp, rfl, rfl, HM, rfl⟩ := hrel
    by_cases hlt : p ≤ zs3.length
    · have hlt' : (p : Int) ≤ (zs3.length : Int) := by omega
      go_upto_region 12 with fail
      go_cut [14, 15] (fun u v wx => u = .bool (g5 (p + zs1.length)) ∧ v = .bool (g6 (p + zs2.length)) ∧ wk = wx)
      case first =>
        clear HM Hc
        have hA := HA.out (p + zs1.length) (by omega)
        have hB := HB.out (p + zs2.length) (by omega)
        rw [Int.natCast_add] at hA hB
        have KA := Lib.hid hA
        have KB := Lib.hid hB
        clear hA hB HA HB
        by_cases za : p + zs1.length = 0
        · have fa : ((p : Int) + zs1.length == 0) = true := by rw [beq_iff_eq]; omega
          by_cases zb : p + zs2.length = 0
          · have fb : ((p : Int) + zs2.length == 0) = true := by rw [beq_iff_eq]; omega
            have ZA := Lib.hid za; have ZB := Lib.hid zb
            clear za zb
            go_wp2_with fail
            go_meet
            exact ⟨by rw [ZA.out, Z5.out], by rw [ZB.out, Z6.out], by first | rfl | trivial⟩
          · have fb : ((p : Int) + zs2.length == 0) = false := by rw [beq_eq_false_iff_ne]; omega
            have ZA := Lib.hid za; have ZB := Lib.hid zb
            clear za zb
            go_wp2_with fail
            refine KB.out.mono ?_
            rintro e wn ⟨rfl, rfl⟩
            go_wp2_with fail
            go_meet
            exact ⟨by rw [ZA.out, Z5.out], by rw [D6.out _ ZB.out], by first | rfl | trivial⟩
        · have fa : ((p : Int) + zs1.length == 0) = false := by rw [beq_eq_false_iff_ne]; omega
          by_cases zb : p + zs2.length = 0
          · have fb : ((p : Int) + zs2.length == 0) = true := by rw [beq_iff_eq]; omega
            have ZA := Lib.hid za; have ZB := Lib.hid zb
            clear za zb
            go_wp2_with fail
            refine KA.out.mono ?_
            rintro e wn ⟨rfl, rfl⟩
            go_wp2_with fail
            go_meet
            exact ⟨by rw [D5.out _ ZA.out], by rw [ZB.out, Z6.out], by first | rfl | trivial⟩
          · have fb : ((p : Int) + zs2.length == 0) = false := by rw [beq_eq_false_iff_ne]; omega
            have ZA := Lib.hid za; have ZB := Lib.hid zb
            clear za zb
            go_wp2_with fail
            refine KA.out.mono ?_
            rintro e wn ⟨rfl, rfl⟩
            go_wp2_with fail
            refine KB.out.mono ?_
            rintro e wn ⟨rfl, rfl⟩
            go_wp2_with fail
            go_meet
            exact ⟨by rw [D5.out _ ZA.out], by rw [D6.out _ ZB.out], by first | rfl | trivial⟩
      case rest =>
        obtain ⟨rfl, rfl, rfl⟩ := hcut
        have HN : Hid (met = true → g5 (p + zs1.length) = g6 (p + zs2.length)) := Lib.hid (fun h => by
          obtain ⟨p0, h0, h1, h2⟩ := HM.out h
          exact Hc.out p0 p h0 h1 h2)
        have HU : Hid (((met || (g5 (p + zs1.length) && g6 (p + zs2.length))) = true) → ∃ p0, p0 ≤ p + 1 ∧ g5 (p0 + zs1.length) = true ∧ g6 (p0 + zs2.length) = true) := Lib.hid (fun h => by
          rw [Bool.or_eq_true, Bool.and_eq_true] at h
          rcases h with h | h
          · obtain ⟨p0, h0, h1, h2⟩ := HM.out h
            exact ⟨p0, by omega, h1, h2⟩
          · exact ⟨p, by omega, h.1, h.2⟩)
        generalize g5 (p + zs1.length) = bu at *
        generalize g6 (p + zs2.length) = bv at *
        clear HM Hc HA HB
        cases met
        · cases bu <;> cases bv
          all_goals
            clear HN
            go_wp2_with fail
            go_roundw
            case rel => exact ⟨p + 1, _, by omega, by go_num, rfl, HU, by first | rfl | trivial⟩
            case measure => simp [intOf]; omega
        · obtain rfl := HN.out rfl
          cases bu
          all_goals
            clear HN
            go_wp2_with fail
            go_roundw
            case rel => exact ⟨p + 1, _, by omega, by go_num, rfl, HU, by first | rfl | trivial⟩
            case measure => simp [intOf]; omega
    · have hlt' : (zs3.length : Int) < (p : Int) := by omega
      go_wp2_with fail
      go_ret
      exact ⟨ret_bool rfl, hb3⟩

end Go.Proofs.Ytnbbbmmpkjiejaa
