/-
  stockyardref37.Done.
-/
import Derived.Test.YtpoiejgoongllaaRefR37
import Derived.Test.YtpoiejgoongllaaRef25
namespace Go.Proofs.Ytpoiejgoongllaa
set_option linter.unusedVariables false
set_option linter.unusedSimpArgs false
set_option linter.unnecessarySimpa false
open Go.RowKit
attribute [local go_sem ↓] Go.wp_at_zero Go.wp_at_succ

theorem grewA_one {w0 w1 : World} (h1 : w0.grownBy w1 (Value.slice none 0 0).ownBlock) : Grew w0 w1 := ((Ch.of_own (v := .slice none 0 0) h1).mono (T := NoB) (fun k _ h => by cases h)).grew
theorem grewA_three {w0 w1 wh w2 : World} {v : Value} (h1 : w0.grownBy w1 (Value.slice none 0 0).ownBlock) (hv : v.ownBlock = (Value.slice none 0 0).ownBlock ∨ v.ownBlock = some w0.heap.size) (hh : Grew w1 wh) (h2 : wh.grownBy w2 v.ownBlock) : Grew w0 w2 :=
  (((Ch.of_own (v := .slice none 0 0) h1).mono (T := NoB) (fun k _ h => by cases h)).next hh |>.nextNew (Ch.of_own h2) (fun i hi => .inl (by
    rcases hv with h | h
    · rw [h] at hi; cases hi
    · rw [h] at hi; injection hi with hi; omega))).grew
/-- the bytes of the content -/
def rfB (R : RfR) : List Int := rangeB (R.had ++ R.got) R.n R.ids 0 R.n
def RfDoneRes (R : RfR) (w : World) (e : Ending) (w' : World) : Prop := Grew w w' ∧ if R.pre = [] then ∃ (A : Option Addr) (c : Nat), e = .returned (.tuple #[.slice A (rfB R).length c, .bool true]) ∧ w'.ownsRow w.heap.size 5 1 (.slice A (rfB R).length c) (rfB R).length ((rfB R).map (.int .u8))
  else e = .returned (.tuple #[.slice none 0 0, .bool false])
set_option maxRecDepth 100000 in
set_option maxHeartbeats 2000000 in
theorem refDone37_any (L : RfL) (R : RfR) (w : World) (h : RfIs w L R) (ok : RfOk R) (hc : OkC (R.had ++ R.got)) : Calls Try.prog 65 #[rfV L R] w (RfDoneRes R w) := by
  have g0 := grew_alloc w (.cells #[.int .i64 R.n, .slice L.ai R.ids.length L.ci, .slice L.ah R.had.length L.ch, .slice L.ag R.got.length L.cg, .slice L.ap R.pre.length L.cp] 71)
  have kR := Blk.new w 71 #[.int .i64 R.n, .slice L.ai R.ids.length L.ci, .slice L.ah R.had.length L.ch, .slice L.ag R.got.length L.cg, .slice L.ap R.pre.length L.cp]
  have c0 := (kR.cell 0).trans (show _ = some (.int .i64 R.n) from rfl)
  have c1 := (kR.cell 1).trans (show _ = some (.slice L.ai R.ids.length L.ci) from rfl)
  have c2 := (kR.cell 2).trans (show _ = some (.slice L.ah R.had.length L.ch) from rfl)
  have c3 := (kR.cell 3).trans (show _ = some (.slice L.ag R.got.length L.cg) from rfl)
  have c4 := (kR.cell 4).trans (show _ = some (.slice L.ap R.pre.length L.cp) from rfl)
  have HG := Lib.hid g0
  have HI := Lib.hid (h.up g0)
  have HOk := Lib.hid ok
  have HC := Lib.hid hc
  have n1 := ok.nhad
  have n2 := ok.ngot
  have n3 := ok.nids
  clear h ok g0 kR hc
  unfold rfV
  go_enter Try.func65, Try.ntmps65
  by_cases hp : R.pre = []
  · have h0 : R.pre.length = 0 := by rw [hp]; rfl
    have HP := Lib.hid hp
    clear hp
    have c4' : (w.alloc (.cells #[.int .i64 R.n, .slice L.ai R.ids.length L.ci, .slice L.ah R.had.length L.ch, .slice L.ag R.got.length L.cg, .slice L.ap R.pre.length L.cp] 71)).cell? ⟨w.heap.size, 4, none⟩ = some (.slice L.ap 0 L.cp) := by rw [c4, h0]
    clear c4 h0
    go_upto_region 3 with (fail)
    generalize w.alloc (.cells #[.int .i64 R.n, .slice L.ai R.ids.length L.ci, .slice L.ah R.had.length L.ch, .slice L.ag R.got.length L.cg, .slice L.ap R.pre.length L.cp] 71) = w1 at *
    refine wp_region_g 13 (by kernel_rfl) ?_
    refine AllC.head 0 4 (fuel := 10) (by first | exact fun h k => Grew.trans h k | exact fun h k => cls_grew h k) (grew_drew _) (by rfl) (by kernel_rfl) ?_
    simp only [List.take_succ_cons, List.take_zero, List.drop_succ_cons, List.drop_zero]
    repeat (first
      | (refine HeadC.val (by rfl) ?_
         apply Exists.intro
         refine ⟨fun w' hw' => ?_, ?_⟩
         · (have hf_0 := cell_up hw' c0; have hf_1 := cell_up hw' c1; have hf_2 := cell_up hw' c2; (go_simp) <;> (try go_ints) <;> with_reducible rfl)
         try simp only [Act.put, List.setIfInBounds_toArray, List.set_cons_zero, List.set_cons_succ])
      | (refine HeadC.shut (by rfl) ?_
         try simp only [Act.put, List.setIfInBounds_toArray, List.set_cons_zero, List.set_cons_succ]))
    refine HeadC.nil ?_
    refine AllC.head 5 2 (fuel := 8) (by first | exact fun h k => Grew.trans h k | exact fun h k => cls_grew h k) (grew_drew _) (by rfl) (by kernel_rfl) ?_
    simp only [List.take_succ_cons, List.take_zero, List.drop_succ_cons, List.drop_zero]
    repeat (first
      | (refine HeadC.val (by rfl) ?_
         apply Exists.intro
         refine ⟨fun w' hw' => ?_, ?_⟩
         · (have hf_0 := cell_up hw' c3; (go_simp) <;> (try go_ints) <;> with_reducible rfl)
         try simp only [Act.put, List.setIfInBounds_toArray, List.set_cons_zero, List.set_cons_succ])
      | (refine HeadC.shut (by rfl) ?_
         try simp only [Act.put, List.setIfInBounds_toArray, List.set_cons_zero, List.set_cons_succ]))
    refine HeadC.nil ?_
    refine AllC.one 4 (by kernel_rfl) rfl ?_
    intro wg hg K hK
    have hg1 : Grew w1 wg := (grew_drew w1).trans hg
    have hI1 := HI.out.up hg1
    refine step_append_row rfl (.const (.slice none 0 0)) (.tmp 14) rfl wg.heap.size elem_chunk (by rfl) (World.ownsRow_nil _ _ _ _) _ (by rfl) (chsC_len _) hI1.rhad (ones_chs _) (by unfold maxLen; omega) (by omega) (Nat.le_refl _) ?_
    intro A2 k2 w2 hown2 hg2 hv2
    rw [List.nil_append] at hown2
    have hG2 := hg1.trans (grewA_one hg2)
    refine hK.out _ _ hG2 ?_
    clear hK K
    try simp only [Act.put, List.setIfInBounds_toArray, List.set_cons_zero, List.set_cons_succ]
    refine AllC.one 7 (by kernel_rfl) rfl ?_
    intro wh hh K hK
    have hI2 := HI.out.up (hG2.trans hh)
    have hownh := own_below hown2 hh
    refine step_append_row rfl (.tmp 15) (.tmp 17) rfl wg.heap.size elem_chunk (by rfl) hownh _ (by rfl) (chsC_len _) hI2.rgot (ones_chs _) (by unfold maxLen; omega) (by omega) (Nat.le_trans (grewA_one hg2).size hh.size) ?_
    intro A3 k3 w3 hown3 hg3 _
    have hG3 : Grew w1 w3 := hg1.trans (grewA_three hg2 hv2 hh hg3)
    have HR3 : Hid (Row w3 w3.heap.size A3 (chsC (R.had ++ R.got))) := Lib.hid (by rw [chsC_append]; exact own_row hown3)
    refine hK.out _ _ hG3 ?_
    clear hK K hI1 hI2 hg1 hG2 hown2 hownh hg2 hv2 hh hg3 hg hown3
    try simp only [Act.put, List.setIfInBounds_toArray, List.set_cons_zero, List.set_cons_succ]
    refine AllC.one 8 (by kernel_rfl) rfl ?_
    intro wg hg K hK
    have hG4 := hG3.trans hg
    have hI4 := HI.out.up hG4
    have HAs := refAssemble25_any (R.n : Int) L.ai L.ci wg.heap.size R.ids A3 k3 (R.had ++ R.got) wg hI4.rids ((HR3.out.up hg (Nat.le_refl _)).more hg.size) (fun c hc => (List.mem_append.1 hc).elim (hI4.lhad c) (hI4.lgot c)) HC.out (Nat.le_refl _) (by omega) (by rw [List.length_append]; omega)
    rw [List.length_append] at HAs
    go_simp
    refine HAs.mono ?_
    clear HAs
    rintro e w5 ⟨A5, k5, rfl, hown5, hg5⟩
    have hG5 := hG4.trans hg5
    refine hK.out _ _ hG5 ?_
    have HO5 : Hid (w5.ownsRow w.heap.size 5 1 (.slice A5 (rfB R).length k5) (rfB R).length ((rfB R).map (.int .u8))) := Lib.hid (own_mono hown5 (Nat.le_trans HG.out.size hG4.size))
    have HLn : Hid ((rangeB (R.had ++ R.got) R.n R.ids 0 R.n).length = (rfB R).length) := Lib.hid rfl
    clear hK K hG3 hG4 hI4 hg hg5 hown5 HR3
    try simp only [Act.put, List.setIfInBounds_toArray, List.set_cons_zero, List.set_cons_succ]
    generalize rangeE (R.had ++ R.got) R.n R.ids 0 R.n = er
    refine AllC.head 9 4 (fuel := 1) (by first | exact fun h k => Grew.trans h k | exact fun h k => cls_grew h k) (hG5) (by rfl) (by kernel_rfl) ?_
    simp only [List.take_succ_cons, List.take_zero, List.drop_succ_cons, List.drop_zero]
    repeat (first
      | (refine HeadC.val (by rfl) ?_
         apply Exists.intro
         refine ⟨fun w' hw' => ?_, ?_⟩
         · ((go_simp) <;> (try go_ints) <;> with_reducible rfl)
         try simp only [Act.put, List.setIfInBounds_toArray, List.set_cons_zero, List.set_cons_succ])
      | (refine HeadC.shut (by rfl) ?_
         try simp only [Act.put, List.setIfInBounds_toArray, List.set_cons_zero, List.set_cons_succ]))
    refine HeadC.nil ?_
    refine AllC.tail 13 (by rfl) (by kernel_rfl) ?_
    intro wt hwt
    simp only [List.drop_succ_cons, List.drop_zero]
    have HG6 := Lib.hid (Grew.trans HG.out (Grew.trans hG5 hwt))
    have HO6 := Lib.hid (own_below HO5.out hwt)
    clear hG5 hwt HO5
    go_wp2_with fail
    go_ret2
    refine ⟨HG6.out, ?_⟩
    rw [if_pos HP.out]
    exact ⟨A5, k5, rfl, HO6.out⟩
  · have HP := Lib.hid hp
    have h0 : (0 : Int) < (R.pre.length : Int) := by
      cases hq : R.pre with
      | nil => exact absurd hq hp
      | cons a l => rw [List.length_cons]; omega
    clear hp
    go_wp2_with fail
    go_ret2
    refine ⟨HG.out, ?_⟩
    rw [if_neg HP.out]
    rfl
end Go.Proofs.Ytpoiejgoongllaa
