/-
  manifest.Assemble; stockyardlaw25.known.
-/
import Derived.Test.YtnjhipnfhapngaaRange
import Derived.Test.YtnjhipnfhapngaaEnc25
namespace Go.Proofs.Ytnjhipnfhapngaa
set_option linter.unusedVariables false
set_option linter.unusedSimpArgs false
set_option linter.unnecessarySimpa false
open Go.RowKit
attribute [local go_sem ↓] Go.wp_at_zero Go.wp_at_succ

set_option maxRecDepth 100000 in
set_option maxHeartbeats 1000000 in
theorem assemble25_any (n : Int) (A : Option Addr) (cap B : Nat) (ids : List IdZ) (L : Option Addr) (lc : Nat) (l : List ChZ) (w : World) (hr : Row w B A (idsC ids)) (hw : ∀ x ∈ ids, WfI x) (hl : Row w B L (chsC l)) (hp : LieC w B l) (hok : OkC l) (hB : B ≤ w.heap.size) (hm : ids.length ≤ 9223372036854775807) (hlm : l.length ≤ 1048576) :
    Calls Try.prog 18 #[.agg #[.int .i64 n, .slice A ids.length cap], .slice L l.length lc] w (RangeRes l n ids 0 n w) := by
  have g0 := grew_alloc w (.cells #[.int .i64 n, .slice A ids.length cap] 31)
  have HR := Lib.hid (range25_any n A cap B ids 0 n L lc l _ (hr.below g0 hB) hw (hl.below g0 hB) (hp.below g0 hB) hok (Nat.le_trans hB g0.size) hm hlm)
  clear hw hok hp
  go_enter Try.func18, Try.ntmps18
  go_wp2_with fail
  refine HR.out.mono ?_
  rintro e w2 ⟨A2, c2, rfl, hown, hb⟩
  have hb2 := Grew.trans g0 hb
  have hown2 := own_mono hown g0.size
  clear hown hb g0 HR
  generalize hx : rangeB l n ids 0 n = x at *
  have HX := Lib.hid hx
  generalize hy : rangeE l n ids 0 n = y at *
  have HY := Lib.hid hy
  clear hx hy
  go_wp2_with fail
  go_ret2
  refine ⟨A2, c2, ?_, ?_, hb2⟩
  · rw [HX.out, HY.out]; rfl
  · rw [HX.out]; exact hown2

theorem knownE (A : Option Addr) (c : Nat) : rangeE [⟨(747382712868975714, 2), ⟨A, c, [0, 0]⟩⟩] 2 [(747382712868975714, 2)] 0 2 = 0 := by kernel_rfl
theorem knownB (A : Option Addr) (c : Nat) : rangeB [⟨(747382712868975714, 2), ⟨A, c, [0, 0]⟩⟩] 2 [(747382712868975714, 2)] 0 2 = [0, 0] := by kernel_rfl
theorem knownC : chkM 0 [] = 0 := by decide +kernel
theorem knownD : encB 0 [] = [0, 0] := by decide +kernel

set_option maxRecDepth 100000 in
set_option maxHeartbeats 2000000 in
theorem known25_any (w : World) : Calls Try.prog 23 #[] w fun e w' => e = .returned (.bool true) ∧ Below w.heap.size w w' := by
  have g0 := grew_alloc w (.cells #[.int .u64 747382712868975714, .int .i64 2] 51)
  have hI := Blk.new w 51 #[.int .u64 747382712868975714, .int .i64 2]
  have z0 : (w.alloc (.cells #[.int .u64 747382712868975714, .int .i64 2] 51)).heap.size = w.heap.size + 1 := by simp
  have g1 := grew_alloc (w.alloc (.cells #[.int .u64 747382712868975714, .int .i64 2] 51)) (.cells #[.int .i64 2, .slice (some ⟨w.heap.size, 0, none⟩) 1 1] 31)
  have hM := Blk.new (w.alloc (.cells #[.int .u64 747382712868975714, .int .i64 2] 51)) 31 #[.int .i64 2, .slice (some ⟨w.heap.size, 0, none⟩) 1 1]
  rw [z0] at hM
  replace hI := hI.of g1
  have gA := g0.trans g1
  clear g0 g1 z0
  go_enter Try.func23, Try.ntmps23
  go_wp2_with fail
  generalize (w.alloc (.cells #[.int .u64 747382712868975714, .int .i64 2] 51)).alloc (.cells #[.int .i64 2, .slice (some ⟨w.heap.size, 0, none⟩) 1 1] 31) = w1 at *
  generalize hgc : w.heap.size = gc at *
  have HGc := Lib.hid hgc
  clear hgc
  have m0 := (hM.cell 0).trans (show _ = some (.int .i64 2) from rfl)
  have m1 := (hM.cell 1).trans (show _ = some (.slice (some ⟨gc, 0, none⟩) 1 1) from rfl)
  have i0 := (hI.cell 0).trans (show _ = some (.int .u64 747382712868975714) from rfl)
  have i1 := (hI.cell 1).trans (show _ = some (.int .i64 2) from rfl)
  have hIr := hI.row
  refine wp_region_g 13 (by kernel_rfl) ?_
  refine AllC.head 0 5 (fuel := 9) (by first | exact fun h k => Grew.trans h k | exact fun h k => cls_grew h k) (grew_drew _) (by rfl) (by kernel_rfl) ?_
  simp only [List.take_succ_cons, List.take_zero, List.drop_succ_cons, List.drop_zero]
  repeat (first
    | (refine HeadC.val (by rfl) ?_
       apply Exists.intro
       refine ⟨fun w' hw' => ?_, ?_⟩
       · (have hf_0 := cell_up hw' m0; have hf_1 := cell_up hw' m1; have hf_2 := cell_up hw' i0; have hf_3 := cell_up hw' i1; (go_simp) <;> (try go_ints) <;> with_reducible rfl)
       try simp only [Act.put, List.setIfInBounds_toArray, List.set_cons_zero, List.set_cons_succ])
    | (refine HeadC.shut (by rfl) ?_
       try simp only [Act.put, List.setIfInBounds_toArray, List.set_cons_zero, List.set_cons_succ]))
  refine HeadC.nil ?_
  refine AllC.one 5 (by kernel_rfl) rfl ?_
  intro wg hg K hK
  go_simp
  have hg5 : Grew w1 (wg.alloc (.cells #[.int .u8 0, .int .u8 0] 5)) := ((grew_drew _).trans hg).trans (grew_alloc _ _)
  have hBy := (Blk.new wg 5 #[.int .u8 0, .int .u8 0]).row
  refine hK.out _ _ hg5 ?_
  clear hK K hg
  try simp only [Act.put, List.setIfInBounds_toArray, List.set_cons_zero, List.set_cons_succ]
  generalize wg.alloc (.cells #[.int .u8 0, .int .u8 0] 5) = w5 at *
  generalize wg.heap.size = g5 at *
  clear wg
  refine AllC.head 6 1 (fuel := 7) (by first | exact fun h k => Grew.trans h k | exact fun h k => cls_grew h k) (hg5) (by rfl) (by kernel_rfl) ?_
  simp only [List.take_succ_cons, List.take_zero, List.drop_succ_cons, List.drop_zero]
  repeat (first
    | (refine HeadC.val (by rfl) ?_
       apply Exists.intro
       refine ⟨fun w' hw' => ?_, ?_⟩
       · ((go_simp) <;> (try go_ints) <;> with_reducible rfl)
       try simp only [Act.put, List.setIfInBounds_toArray, List.set_cons_zero, List.set_cons_succ])
    | (refine HeadC.shut (by rfl) ?_
       try simp only [Act.put, List.setIfInBounds_toArray, List.set_cons_zero, List.set_cons_succ]))
  refine HeadC.nil ?_
  refine AllC.one 7 (by kernel_rfl) rfl ?_
  intro wg hg K hK
  go_simp
  have hg6 := hg5.trans hg
  have hg7 : Grew w1 (wg.alloc (.cells #[.int .u64 747382712868975714, .int .i64 2, .slice (some ⟨g5, 0, none⟩) 2 2] 53)) := hg6.trans (grew_alloc _ _)
  have hCh := (Blk.new wg 53 #[.int .u64 747382712868975714, .int .i64 2, .slice (some ⟨g5, 0, none⟩) 2 2]).row
  have hBy2 := (hBy.up (hg.trans (grew_alloc wg (.cells #[.int .u64 747382712868975714, .int .i64 2, .slice (some ⟨g5, 0, none⟩) 2 2] 53))) (Nat.le_refl _)).more (hg.trans (grew_alloc wg (.cells #[.int .u64 747382712868975714, .int .i64 2, .slice (some ⟨g5, 0, none⟩) 2 2] 53))).size
  refine hK.out _ _ hg7 ?_
  clear hK K hg hg6
  try simp only [Act.put, List.setIfInBounds_toArray, List.set_cons_zero, List.set_cons_succ]
  generalize wg.alloc (.cells #[.int .u64 747382712868975714, .int .i64 2, .slice (some ⟨g5, 0, none⟩) 2 2] 53) = w7 at *
  generalize wg.heap.size = g7 at *
  clear wg
  refine AllC.one 8 (by kernel_rfl) rfl ?_
  intro wg hg K hK
  go_simp
  have hg8 := hg7.trans hg
  have HAs := assemble25_any 2 (some ⟨gc, 0, none⟩) 1 wg.heap.size [(747382712868975714, 2)] (some ⟨g7, 0, none⟩) 1 [⟨(747382712868975714, 2), ⟨some ⟨g5, 0, none⟩, 2, [0, 0]⟩⟩] wg ((hIr.up hg8 (Nat.le_refl _)).more hg8.size) (fun x hx => by rw [List.mem_singleton] at hx; subst hx; exact ⟨by decide, by decide⟩)
    ((hCh.up hg (Nat.le_refl _)).more hg.size) (fun c hc => by rw [List.mem_singleton] at hc; subst hc; exact (hBy2.up hg (Nat.le_refl _)).more hg.size) (fun c hc => by rw [List.mem_singleton] at hc; subst hc; exact ⟨⟨by simp, by simp⟩, fun z hz => by simp at hz; omega, by simp, by simp⟩) (Nat.le_refl _) (by simp) (by simp)
  unfold RangeRes at HAs
  rw [knownE, knownB] at HAs
  refine HAs.mono ?_
  rintro e w8 ⟨A8, c8, rfl, hown8, hb⟩
  have hg9 := hg8.trans hb
  refine hK.out _ _ hg9 ?_
  clear hK K hg hb hg8 HAs
  try simp only [Act.put, List.setIfInBounds_toArray, List.set_cons_zero, List.set_cons_succ]
  refine AllC.head 9 4 (fuel := 1) (by first | exact fun h k => Grew.trans h k | exact fun h k => cls_grew h k) (hg9) (by rfl) (by kernel_rfl) ?_
  simp only [List.take_succ_cons, List.take_zero, List.drop_succ_cons, List.drop_zero]
  repeat (first
    | (refine HeadC.val (by rfl) ?_
       apply Exists.intro
       refine ⟨fun w' hw' => ?_, ?_⟩
       · ((go_simp) <;> (try go_ints) <;> with_reducible rfl)
       try simp only [Act.put, List.setIfInBounds_toArray, List.set_cons_zero, List.set_cons_succ])
    | (refine HeadC.shut (by rfl) ?_
       try simp only [Act.put, List.setIfInBounds_toArray, List.set_cons_zero, List.set_cons_succ]))
  refine HeadC.nil ?_
  refine AllC.tail 13 (by rfl) (by kernel_rfl) ?_
  intro wt hwt
  simp only [List.drop_succ_cons, List.drop_zero]
  have hg10 := gA.trans (hg9.trans hwt)
  clear hwt hg9 m0 m1 i0 i1
  have HEn := encode25_any 0 none 0 0 [] wt (.inl rfl) (fun x hx => by simp at hx) (Nat.zero_le _) (by decide)
  unfold EncRes at HEn
  rw [knownC, knownD] at HEn
  have HEN := Lib.hid HEn
  clear HEn
  go_wp2_with fail
  refine HEN.out.mono ?_
  rintro e w11 ⟨A11, c11, rfl, hown11, hb11⟩
  have hcv := conv_row' (own_row hown11) c11
  have hst : strOfNums [0, 0] = (⟨#[0, 0]⟩ : ByteArray) := by rfl
  simp only [List.length_cons, List.length_nil, Nat.zero_add, Nat.reduceAdd] at hcv
  rw [hst] at hcv
  go_wp2_with fail
  go_ret
  exact ⟨rfl, Grew.trans hg10 hb11⟩

end Go.Proofs.Ytnjhipnfhapngaa
