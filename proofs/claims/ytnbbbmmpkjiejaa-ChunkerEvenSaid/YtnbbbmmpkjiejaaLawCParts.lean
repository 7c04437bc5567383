/-
  stockyardlaw24.ChunkerParts returns true.
-/
import Derived.Test.YtnbbbmmpkjiejaaCutPre
import Derived.Test.YtnbbbmmpkjiejaaSplit
import Derived.Laws.BytesArg
namespace Go.Proofs.Ytnbbbmmpkjiejaa
set_option linter.unusedVariables false
set_option linter.unusedSimpArgs false
set_option linter.unnecessarySimpa false
open Go.RowKit
attribute [local go_sem ↓] Go.wp_at_zero Go.wp_at_succ

theorem split_at (c : CutZ) (ok : c.Ok) (A : Option Addr) (cap B : Nat) (zs : List Int) (w : World) (hr : Row w B A (zs.map (.int .u8))) (hB : B ≤ w.heap.size) (hz : ∀ z ∈ zs, 0 ≤ z ∧ z ≤ 255) (hm : zs.length ≤ 1048576) (hcap : zs.length ≤ cap) :
    Calls Try.prog 22 #[.agg #[.int .i64 c.mn, .int .i64 c.mx, .int .i64 c.wn, .int .u64 c.mask], .slice A zs.length cap] w fun e w' => ∃ (g : Nat) (ps : List Part), e = .returned (.tuple #[.slice (some ⟨g, 0, none⟩) ps.length ps.length, .int .i64 0]) ∧
      w'.ownsRow w.heap.size 30 1 (.slice (some ⟨g, 0, none⟩) ps.length ps.length) ps.length (ps.map Part.v) ∧ Far w' g ps ∧ ps.map Part.zs = cutsL (lensZ c zs) zs ∧ Below w.heap.size w w' := split_any c ok A cap B zs w hr hB hz hm hcap
theorem flat_of {ps : List Part} {c : CutZ} (ok : c.Ok) {zs : List Int} (h : ps.map Part.zs = cutsL (lensZ c zs) zs) : flat ps = zs := by
  unfold flat
  rw [List.flatMap_def, h, cutsL_flat, lensZ_sum ok, List.take_length]
theorem lens_of {ps : List Part} {c : CutZ} (ok : c.Ok) {zs : List Int} (h : ps.map Part.zs = cutsL (lensZ c zs) zs) : ps.map (fun p => p.zs.length) = lensZ c zs := by
  have : ps.map (fun p => p.zs.length) = (ps.map Part.zs).map List.length := by rw [List.map_map]; rfl
  rw [this, h, cutsL_lens _ _ (by rw [lensZ_sum ok]; exact Nat.le_refl _)]
theorem conv_row {w : World} {B : Nat} {A : Option Addr} {zs : List Int} (hr : Row w B A (zs.map (.int .u8))) (cap : Nat) : (convert 30 9 (.slice A zs.length cap)).run Try.prog w = .ok (.string (strOfNums zs)) w := by
  rw [run_convert_bytes_string w 30 9 5 A zs.length cap Try.underlying30 Try.underlying5 Try.underlying9]
  have main : ∀ ad : Addr, (∀ j v, (zs.map (Value.int .u8))[j]? = some v → w.cell? (ad.add j) = some v) → (Conv.bytesToString (.slice (some ad) zs.length cap)).run Try.prog w = .ok (.string (strOfNums zs)) w := fun ad hc => by
    have hl : (loadCells ad zs.length).run Try.prog w = .ok (zs.map (Value.int .u8)).toArray w := by
      have := run_loadCells_list (P := Try.prog) w ad (zs.map (Value.int .u8)) (fun j v hj => hc j v hj)
      simpa using this
    rw [run_bytesToString w _ zs.length cap zs hl, foldl_push_bytes]
    simp [strOfNums, ByteArray.empty, ByteArray.emptyWithCapacity]
    rfl
  rcases hr with h | ⟨ad, rfl, hb, hc⟩
  · obtain rfl : zs = [] := by simpa using h
    cases A with
    | none => simp [Conv.bytesToString]; rfl
    | some ad => exact main ad (fun j v hj => by simp at hj)
  · exact main ad (fun j v hj => (hc j (List.getElem?_eq_some_iff.1 hj).1).trans hj)
theorem part_len {ps : List Part} {c : CutZ} (ok : c.Ok) {zs : List Int} (h : ps.map Part.zs = cutsL (lensZ c zs) zs) {k : Nat} (hk : k < ps.length) :
    1 ≤ ps[k].zs.length ∧ ps[k].zs.length ≤ c.mx ∧ (k + 1 < ps.length → c.mn ≤ ps[k].zs.length) := by
  have hl := lens_of ok h
  have hlen : (lensZ c zs).length = ps.length := by rw [← hl, List.length_map]
  have hg : (lensZ c zs)[k]? = some ps[k].zs.length := by rw [← hl, List.getElem?_map, List.getElem?_eq_getElem hk]; rfl
  obtain ⟨a, b⟩ := lensZ_pos ok zs _ (List.mem_of_getElem? hg)
  exact ⟨a, b, fun h2 => lensZ_min ok zs k (by rw [hlen]; exact h2) _ hg⟩

set_option maxHeartbeats 1000000 in
theorem lawCParts_any (A : Option Addr) (cap : Nat) (ls : List Int) (w : World) (hr : Row w w.heap.size A (ls.map (.int .i64))) (hz : ∀ z ∈ ls, -9223372036854775808 ≤ z ∧ z ≤ 9223372036854775807) (hm : ls.length ≤ 9223372036854775807) :
    Calls Try.prog 9 #[.slice A ls.length cap] w fun e w' => e = .returned (.bool true) ∧ Below w.heap.size w w' := by
  have hT := Tp.new (cap := cap) hr (Nat.le_refl _) hz hm
  have g0 := grew_alloc w (.cells #[.slice A ls.length cap, .int .i64 0] 25)
  have hch0 : Ch (At w.heap.size) w (w.alloc (.cells #[.slice A ls.length cap, .int .i64 0] 25)) := Ch.of_below g0
  clear hz g0 hr
  go_enter Try.func9, Try.ntmps9
  go_wp2_with fail
  generalize w.alloc (.cells #[.slice A ls.length cap, .int .i64 0] 25) = w1 at *
  refine (made24_any _ _ _ _ hT (by omega)).mono ?_
  rintro e w2 ⟨c, rfl, hsm, hT2, hch⟩
  have HS := Lib.hid hsm
  have hch2 := hch0.trans hch
  clear hT hch hch0 hsm
  unfold cutV
  have hC := CutAt.new w2 c
  have gC := grew_alloc w2 (.cells #[.int .i64 c.mn, .int .i64 c.mx, .int .i64 c.wn, .int .u64 c.mask] 28)
  have hT3 := hT2.of gC
  have hch3 := hch2.next gC
  have htl := hT2.lt
  clear gC hT2 hch2
  go_wp2_with fail
  generalize w2.alloc (.cells #[.int .i64 c.mn, .int .i64 c.mx, .int .i64 c.wn, .int .u64 c.mask] 28) = w3 at *
  generalize w2.heap.size = gc at *
  clear w2
  have hb3 : Below w.heap.size w w3 := hch3.below (Nat.le_refl _) (fun i hi => by rw [hi]; exact Nat.le_refl _)
  have hne : Hid (¬ At w.heap.size gc) := Lib.hid (by show ¬ gc = _; omega)
  clear hch3
  have htl1 := hT3.lt
  refine (text24_any _ _ _ 120 _ hT3 (by omega) (by omega)).mono ?_
  rintro e w4 ⟨A1, c1, zs1, rfl, hlen1, hz, hown1, hT4, hch⟩
  have Hz1 := Lib.hid hz
  replace hC := hC.ch hch hne.out
  replace hb3 : Below w.heap.size w w4 := Below.trans (B := w.heap.size) hb3 (hch.below hb3.size (fun i hi => by rw [hi]; exact Nat.le_refl _))
  replace hT3 := hT4
  clear hch hz hT4
  have hbase1 := Lib.hid (own_lt hown1)
  have hcap1 := (own_cap hown1).1
  have hr1 := own_row hown1
  obtain ⟨d0, d1, d2, d3, d4⟩ := hC.cells
  have OK := Lib.hid HS.out.ok
  clear HS hown1 hbase1 hT3 hne htl1
  go_wp2_with fail
  refine (split_at c OK.out A1 c1 _ zs1 _ hr1 (Nat.le_refl _) Hz1.out (by omega) hcap1).mono ?_
  rintro e w5 ⟨g, ps, rfl, hown, hF, hps, hb⟩
  have HP := Lib.hid hps
  replace hC := hC.of hb
  replace hr1 := (hr1.up hb (Nat.le_refl _)).more hb.size
  replace hb3 : Grew w w5 := Grew.trans hb3 hb
  clear hb d0 d1 d2 d3 d4 hps
  go_wp2_with fail
  have hrg := own_row hown
  refine wp_region_g 13 (by kernel_rfl) ?_
  refine AllC.head 0 8 (fuel := 6) (by first | exact fun h k => Grew.trans h k | exact fun h k => cls_grew h k) (grew_drew _) (by rfl) (by kernel_rfl) ?_
  simp only [List.take_succ_cons, List.take_zero, List.drop_succ_cons, List.drop_zero]
  repeat (first
    | (refine HeadC.val (by rfl) ?_
       apply Exists.intro
       refine ⟨fun w' hw' => ?_, ?_⟩
       · ((go_simp) <;> (try go_ints) <;> with_reducible rfl)
       try simp only [Act.put, List.setIfInBounds_toArray, List.set_cons_zero, List.set_cons_succ])
    | (refine HeadC.call (by rfl) ?_
       apply Exists.intro; apply Exists.intro
       refine ⟨fun w' hw' => ?_, ?_⟩
       · ((go_simp) <;> first | (refine ⟨?_, ?_⟩ <;> with_reducible rfl) | with_reducible rfl)
       apply Exists.intro
       refine ⟨fun w' hw' => ?_, ?_⟩
       · (first | exact known24_any _)
       try simp only [Act.put, List.setIfInBounds_toArray, List.set_cons_zero, List.set_cons_succ])
    | (refine HeadC.shut (by rfl) ?_
       try simp only [Act.put, List.setIfInBounds_toArray, List.set_cons_zero, List.set_cons_succ]))
  refine HeadC.nil ?_
  refine AllC.head 10 2 (fuel := 4) (by first | exact fun h k => Grew.trans h k | exact fun h k => cls_grew h k) (grew_drew _) (by rfl) (by kernel_rfl) ?_
  simp only [List.take_succ_cons, List.take_zero, List.drop_succ_cons, List.drop_zero]
  repeat (first
    | (refine HeadC.val (by rfl) ?_
       apply Exists.intro
       refine ⟨fun w' hw' => ?_, ?_⟩
       · (have hf_0 := conv_row (hr1.up hw' (Nat.le_refl _)) c1; (go_simp) <;> (try go_ints) <;> with_reducible rfl)
       try simp only [Act.put, List.setIfInBounds_toArray, List.set_cons_zero, List.set_cons_succ])
    | (refine HeadC.shut (by rfl) ?_
       try simp only [Act.put, List.setIfInBounds_toArray, List.set_cons_zero, List.set_cons_succ]))
  refine HeadC.nil ?_
  refine AllC.one 8 (by kernel_rfl) rfl ?_
  intro wg hg K hK
  go_simp
  have hg0 : Grew w5 wg := (grew_drew _).trans hg
  have hsum : (flat ps).length ≤ 140737488355328 := by rw [flat_of OK.out HP.out]; omega
  have hpl : ps.length ≤ 9223372036854775807 := (own_cap hown).2
  have HJ := joined_any (some ⟨g, 0, none⟩) ps.length _ ps wg (hrg.up hg0 (Nat.le_refl _) |>.more hg0.size) (hF.of hg0).lie (Nat.le_refl _) hpl hsum
  rw [flat_of OK.out HP.out] at HJ
  refine HJ.mono ?_
  clear HJ hsum hpl
  rintro ee w6 ⟨A3, c3, rfl, hown3, hb⟩
  have hg7 : Grew w5 w6 := hg0.trans hb
  refine hK.out _ _ hg7 ?_
  clear hK K hg hg0
  try simp only [Act.put, List.setIfInBounds_toArray, List.set_cons_zero, List.set_cons_succ]
  have hr3 := own_row hown3
  refine AllC.one 9 (by kernel_rfl) rfl ?_
  intro wg hg K hK
  have hcv := conv_row (hr3.up hg (Nat.le_refl _)) c3
  go_simp
  refine hK.out _ _ (hg7.trans hg) ?_
  replace hg7 := hg7.trans hg
  clear hK K hg hcv hr3 hown3 hb
  try simp only [Act.put, List.setIfInBounds_toArray, List.set_cons_zero, List.set_cons_succ]
  refine AllC.head 12 1 (fuel := 1) (by first | exact fun h k => Grew.trans h k | exact fun h k => cls_grew h k) (hg7) (by rfl) (by kernel_rfl) ?_
  simp only [List.take_succ_cons, List.take_zero, List.drop_succ_cons, List.drop_zero]
  repeat (first
    | (refine HeadC.val (by rfl) ?_
       apply Exists.intro
       refine ⟨fun w' hw' => ?_, ?_⟩
       · ((go_simp) <;> (try go_ints) <;> with_reducible rfl)
       try simp only [Act.put, List.setIfInBounds_toArray, List.set_cons_zero, List.set_cons_succ])
    | (refine HeadC.shut (by rfl) ?_
       try simp only [Act.put, List.setIfInBounds_toArray, List.set_cons_zero, List.set_cons_succ]))
  refine HeadC.nil ?_
  refine AllC.tail 13 (by rfl) (by kernel_rfl) ?_
  intro w7 hwt
  simp only [List.drop_succ_cons, List.drop_zero]
  replace hg7 := hg7.trans hwt
  replace hC := hC.of hg7
  have hrow := hrg.up hg7 (Nat.le_refl _)
  replace hb3 : Grew w w7 := Grew.trans hb3 hg7
  obtain ⟨d0, d1, _, _, d4⟩ := hC.cells
  have HL := Lib.hid (fun k (h : k < ps.length) => part_len OK.out HP.out h)
  have hpl : ps.length ≤ 1048576 := by
    have h1 := congrArg List.length HP.out
    rw [List.length_map, cutsL_length, ← endsZ_length] at h1
    have := ends_len OK.out zs1
    omega
  clear hg7 hwt hown hF hr1 hrg hC
  go_wp2_with fail
  go_loopw [8] (fun i wr => (∃ k : Nat, k ≤ ps.length ∧ i = .int .i64 k) ∧ Drawn w7 wr) (fun i _ => ps.length - (intOf i).toNat)
  case atStart => exact ⟨⟨0, Nat.zero_le _, rfl⟩, Drawn.refl _⟩
  case round =>
    obtain ⟨⟨k, hk, rfl⟩, hd⟩ := hrel
    have e0 : wr.cell? ⟨gc, 0, none⟩ = some (.int .i64 c.mn) := (hd.cell _).trans d0
    have e1 : wr.cell? ⟨gc, 1, none⟩ = some (.int .i64 c.mx) := (hd.cell _).trans d1
    by_cases hlt : k < ps.length
    · obtain ⟨ad, he, hb1, hc⟩ := (hrow.keep (w' := wr) fun p _ => hd.cell p).at_ (k := k) (by simpa using hlt)
      obtain rfl : (⟨g, 0, none⟩ : Addr) = ad := by injection he
      rw [List.getElem_map] at hc
      unfold Part.v at hc
      rw [Addr.add_lit, Nat.zero_add] at hc
      obtain ⟨l1, l2, l3⟩ := HL.out k hlt
      generalize ps[k].A = pA at *
      generalize ps[k].cap = pc at *
      generalize ps[k].zs.length = x at *
      have g1 : decide ((x : Int) > (c.mx : Int)) = false := by simp; omega
      have g2 : decide ((x : Int) < 1) = false := by simp; omega
      have g7 : decide (c.mx < x) = false := by simp; omega
      have gw : IntKind.i64.wrap ((ps.length : Int) - 1) = (ps.length : Int) - 1 := Go.IntWalk.i64_in _ (by omega)
      clear he d0 d1
      by_cases hl : k + 1 < ps.length
      · have l4 := l3 hl
        have g3 : decide ((k : Int) < (ps.length : Int) - 1) = true := by simp; omega
        have g5 : (k : Int) < (ps.length : Int) - 1 := by omega
        have g6 : 1 ≤ ps.length := by omega
        have g4 : decide ((x : Int) < (c.mn : Int)) = false := by simp; omega
        have g8 : decide (x < c.mn) = false := by simp; omega
        clear l3
        go_wp2_with fail
        go_quiet (fail)
        go_wp2
        go_roundw
        case rel => exact ⟨⟨k + 1, by omega, by go_num⟩, hd.drewN _⟩
        case measure => simp [intOf]; omega
      · have g3 : decide ((k : Int) < (ps.length : Int) - 1) = false := by simp; omega
        clear l3
        go_wp2_with fail
        go_quiet (fail)
        go_wp2
        go_roundw
        case rel => exact ⟨⟨k + 1, by omega, by go_num⟩, hd.drewN _⟩
        case measure => simp [intOf]; omega
    · go_wp2_with fail
      go_ret
      exact ⟨ret_bool rfl, Grew.trans hb3 (hd.below _)⟩

end Go.Proofs.Ytnbbbmmpkjiejaa
