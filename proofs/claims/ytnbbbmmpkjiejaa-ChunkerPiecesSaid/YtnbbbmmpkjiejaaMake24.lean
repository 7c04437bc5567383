/-
  stockyardlaw24.made, text, ends, known.
-/
import Derived.Test.YtnbbbmmpkjiejaaTape
import Derived.Test.YtnbbbmmpkjiejaaEnds
import Derived.Test.YtnbbbmmpkjiejaaSameInts
namespace Go.Proofs.Ytnbbbmmpkjiejaa
set_option linter.unusedVariables false
set_option linter.unusedSimpArgs false
set_option linter.unnecessarySimpa false
open Go.RowKit
attribute [local go_sem ↓] Go.wp_at_zero Go.wp_at_succ

/-- small parameters, with a mask of the lowest j bits -/
structure Small (c : CutZ) : Prop where
  ok : c.Ok
  mask : ∃ j : Nat, j < 5 ∧ c.mask = 2 ^ j - 1
def MadeRes (t B M : Nat) (w : World) (e : Ending) (w' : World) : Prop := ∃ c : CutZ, e = .returned (cutV c.mn c.mx c.wn c.mask) ∧ Small c ∧ Tp w' t B (M + 4) ∧ Ch (At t) w w'

set_option maxHeartbeats 2000000 in
theorem made24_any (t B M : Nat) (w : World) (hT : Tp w t B M) (hM : M ≤ 562949953421312) :
    Calls Try.prog 14 #[.pointer (some ⟨t, 0, none⟩)] w (MadeRes t B M w) := by
  have htl := hT.lt
  have hle := hT.le
  have g0 := grew_alloc w (.cells #[.int .i64 0, .int .i64 0, .int .i64 0, .int .u64 0] 28)
  have hBr := Blk.new w 28 #[.int .i64 0, .int .i64 0, .int .i64 0, .int .u64 0]
  have hT0 := hT.of g0
  have Hnr : Hid (¬ At t w.heap.size) := Lib.hid (by show ¬ w.heap.size = t; omega)
  go_enter Try.func14, Try.ntmps14
  go_wp2_with fail
  refine (tapeNext_any t B M 6 _ hT0 (by omega) (by omega)).mono ?_
  rintro e w1 ⟨x1, rfl, hx1, hT1, hch1⟩
  have y1 : x1 < 6 := by omega
  replace hBr := hBr.ch hch1 Hnr.out
  have hchA : Ch (At t) w w1 := (Ch.of_below g0).trans hch1
  clear g0 hT0 hch1 hT hx1
  generalize hgr : w.heap.size = gr at *
  have HGr := Lib.hid hgr
  clear hgr
  have g1 := grew_alloc w1 (.cells #[.int .i64 0, .int .i64 0, .int .i64 (1 + x1), .int .u64 0] 28)
  have hBc := Blk.new w1 28 #[.int .i64 0, .int .i64 0, .int .i64 (1 + x1), .int .u64 0]
  have hgrc : gr ≠ w1.heap.size := Nat.ne_of_lt hBr.lt
  replace hBr := hBr.of g1
  have hT2 := hT1.of g1
  have htl1 := hT1.lt
  have Hne : Hid (¬ At t w1.heap.size) := Lib.hid (by show ¬ w1.heap.size = t; omega)
  have hs1 := hchA.size
  replace hchA := hchA.next g1
  go_wp2_with fail
  clear hT1 g1
  generalize w1.alloc (.cells #[.int .i64 0, .int .i64 0, .int .i64 (1 + x1), .int .u64 0] 28) = w2 at *
  generalize w1.heap.size = gc at *
  clear w1
  have Hrc : Hid (¬ At gc gr) := Lib.hid (by show ¬ gr = gc; exact hgrc)
  have Htc : Hid (¬ At gc t) := Lib.hid (by show ¬ t = gc; omega)
  have Hbc : Hid (∀ i, At gc i → B ≤ i) := Lib.hid (fun i hi => by rw [hi]; omega)
  have hsc : w.heap.size ≤ gc := hs1
  have hT := hT2
  clear hT2
  have cl := hBc.cell 2
  simp only [List.getElem?_toArray, List.getElem?_cons_zero, List.getElem?_cons_succ] at cl
  refine wp_region_cls (Ch (At t) w2) 4 (by kernel_rfl) ?_
  have hc0 := (Ch.refl (At t) w2).drew
  refine AllC.head 0 3 (fuel := 4) (by first | exact fun h k => Grew.trans h k | exact fun h k => cls_grew h k) (hc0) (by rfl) (by kernel_rfl) ?_
  simp only [List.take_succ_cons, List.take_zero, List.drop_succ_cons, List.drop_zero]
  repeat (first
    | (refine HeadC.val (by rfl) ?_
       apply Exists.intro
       refine ⟨fun w' hw' => ?_, ?_⟩
       · (have hf_0 := hw'.cell cl Hne.out; (go_simp) <;> (try go_ints) <;> with_reducible rfl)
       try simp only [Act.put, List.setIfInBounds_toArray, List.set_cons_zero, List.set_cons_succ])
    | (refine HeadC.shut (by rfl) ?_
       try simp only [Act.put, List.setIfInBounds_toArray, List.set_cons_zero, List.set_cons_succ]))
  refine HeadC.nil ?_
  refine AllC.one 3 (by kernel_rfl) rfl ?_
  intro wg hg1 K hK
  go_simp
  have hg' : Grew w2 wg := (grew_drew _).trans hg1
  refine (tapeNext_any t B (M + 1) 6 _ (hT.of hg') (by omega) (by omega)).mono ?_
  clear hT
  rintro e w6 ⟨x2, rfl, hx, hT, hch⟩
  have yx2 : x2 < 6 := by omega
  have hc5 : Ch (At t) w2 w6 := (Ch.of_below hg').trans hch
  refine hK.out _ _ hc5 ?_
  clear hK K hch hg' hg1 hx hc0 cl
  try simp only [Act.put, List.setIfInBounds_toArray, List.set_cons_zero, List.set_cons_succ]
  refine AllC.tail 4 (by rfl) (by kernel_rfl) ?_
  intro w5 hwt
  simp only [List.drop_succ_cons, List.drop_zero]
  replace hc5 := hc5.next hwt
  replace hT := hT.of hwt
  clear hwt
  replace hBc := hBc.ch hc5 Hne.out
  replace hBr := hBr.ch hc5 Hnr.out
  replace hchA := hchA.trans hc5
  have q0 := hBc.cell 0
  have q1 := hBc.frozen 0
  simp only [List.getElem?_toArray, List.getElem?_cons_zero, List.getElem?_cons_succ] at q0
  clear hc5
  go_wp2_with fail
  clear q0 q1
  have hcs := (Ch.refl (At gc) w5).set_at 0 (.int .i64 (1 + ↑x1 + ↑x2))
  replace hBc := hBc.set_ 0 (.int .i64 (1 + ↑x1 + ↑x2))
  replace hBr := hBr.ch hcs Hrc.out
  replace hT := hT.ch hcs Htc.out Hbc.out
  replace hchA := hchA.nextNew hcs (fun i hi => .inl (by rw [hi]; exact hsc))
  simp only [List.setIfInBounds_toArray, List.set_cons_zero, List.set_cons_succ] at hBc
  generalize w5.setCell ⟨gc, 0, none⟩ (.int .i64 (1 + ↑x1 + ↑x2)) = wn at *
  clear hcs w5
  have cl := hBc.cell 0
  simp only [List.getElem?_toArray, List.getElem?_cons_zero, List.getElem?_cons_succ] at cl
  refine wp_region_cls (Ch (At t) wn) 4 (by kernel_rfl) ?_
  have hc0 := (Ch.refl (At t) wn).drew
  refine AllC.head 0 3 (fuel := 4) (by first | exact fun h k => Grew.trans h k | exact fun h k => cls_grew h k) (hc0) (by rfl) (by kernel_rfl) ?_
  simp only [List.take_succ_cons, List.take_zero, List.drop_succ_cons, List.drop_zero]
  repeat (first
    | (refine HeadC.val (by rfl) ?_
       apply Exists.intro
       refine ⟨fun w' hw' => ?_, ?_⟩
       · (have hf_0 := hw'.cell cl Hne.out; (go_simp) <;> (try go_ints) <;> with_reducible rfl)
       try simp only [Act.put, List.setIfInBounds_toArray, List.set_cons_zero, List.set_cons_succ])
    | (refine HeadC.shut (by rfl) ?_
       try simp only [Act.put, List.setIfInBounds_toArray, List.set_cons_zero, List.set_cons_succ]))
  refine HeadC.nil ?_
  refine AllC.one 3 (by kernel_rfl) rfl ?_
  intro wg hg1 K hK
  go_simp
  have hg' : Grew wn wg := (grew_drew _).trans hg1
  refine (tapeNext_any t B (M + 2) 20 _ (hT.of hg') (by omega) (by omega)).mono ?_
  clear hT
  rintro e w6 ⟨x3, rfl, hx, hT, hch⟩
  have yx3 : x3 < 20 := by omega
  have hc5 : Ch (At t) wn w6 := (Ch.of_below hg').trans hch
  refine hK.out _ _ hc5 ?_
  clear hK K hch hg' hg1 hx hc0 cl
  try simp only [Act.put, List.setIfInBounds_toArray, List.set_cons_zero, List.set_cons_succ]
  refine AllC.tail 4 (by rfl) (by kernel_rfl) ?_
  intro w5 hwt
  simp only [List.drop_succ_cons, List.drop_zero]
  replace hc5 := hc5.next hwt
  replace hT := hT.of hwt
  clear hwt
  replace hBc := hBc.ch hc5 Hne.out
  replace hBr := hBr.ch hc5 Hnr.out
  replace hchA := hchA.trans hc5
  have q0 := hBc.cell 1
  have q1 := hBc.frozen 1
  simp only [List.getElem?_toArray, List.getElem?_cons_zero, List.getElem?_cons_succ] at q0
  clear hc5
  go_wp2_with fail
  clear q0 q1
  have hcs := (Ch.refl (At gc) w5).set_at 1 (.int .i64 (1 + ↑x1 + ↑x2 + ↑x3))
  replace hBc := hBc.set_ 1 (.int .i64 (1 + ↑x1 + ↑x2 + ↑x3))
  replace hBr := hBr.ch hcs Hrc.out
  replace hT := hT.ch hcs Htc.out Hbc.out
  replace hchA := hchA.nextNew hcs (fun i hi => .inl (by rw [hi]; exact hsc))
  simp only [List.setIfInBounds_toArray, List.set_cons_zero, List.set_cons_succ] at hBc
  generalize w5.setCell ⟨gc, 1, none⟩ (.int .i64 (1 + ↑x1 + ↑x2 + ↑x3)) = wn at *
  clear hcs w5
  refine (tapeNext_any t B (M + 3) 5 _ hT (by omega) (by omega)).mono ?_
  clear hT
  rintro e w5 ⟨x4, rfl, hx, hT, hch⟩
  have yx4 : x4 < 5 := by omega
  replace hBc := hBc.ch hch Hne.out
  replace hBr := hBr.ch hch Hnr.out
  replace hchA := hchA.trans hch
  have q0 := hBc.cell 3
  have q1 := hBc.frozen 3
  simp only [List.getElem?_toArray, List.getElem?_cons_zero, List.getElem?_cons_succ] at q0
  clear hch hx
  have p0 : (1 : Int) ≤ 2 ^ x4 := by rcases (by omega : x4 = 0 ∨ x4 = 1 ∨ x4 = 2 ∨ x4 = 3 ∨ x4 = 4) with h | h | h | h | h <;> subst h <;> decide
  have p1 : (2 : Int) ^ x4 ≤ 16 := by rcases (by omega : x4 = 0 ∨ x4 = 1 ∨ x4 = 2 ∨ x4 = 3 ∨ x4 = 4) with h | h | h | h | h <;> subst h <;> decide
  have d0 := hBc.cell 0
  have d1 := hBc.cell 1
  have d2 := hBc.cell 2
  have r0 := hBr.cell 0
  have r1 := hBr.cell 1
  have r2 := hBr.cell 2
  have r3 := hBr.cell 3
  have f0 := hBr.frozen 0
  have f1 := hBr.frozen 1
  have f2 := hBr.frozen 2
  have f3 := hBr.frozen 3
  simp only [List.getElem?_toArray, List.getElem?_cons_zero, List.getElem?_cons_succ] at d0 d1 d2 r0 r1 r2 r3
  have hgr : w.heap.size ≤ gr := by rw [HGr.out]; exact Nat.le_refl _
  have HC := Lib.hid hchA
  have HT := Lib.hid hT
  clear hchA hT hBc hBr
  go_wp2_with fail
  have ha := (Ch.refl (At gc) w5).set_at 3 (.int .u64 (2 ^ x4 - 1))
  have hT1 := HT.out.ch ha Htc.out Hbc.out
  have hc1 := HC.out.nextNew ha (fun i hi => .inl (by rw [hi]; exact hsc))
  have hb := ((((Ch.refl (At gr) (w5.setCell ⟨gc, 3, none⟩ (.int .u64 (2 ^ x4 - 1)))).set_at 0 (.int .i64 (1 + ↑x1 + ↑x2))).set_at 1 (.int .i64 (1 + ↑x1 + ↑x2 + ↑x3))).set_at 2 (.int .i64 (1 + ↑x1))).set_at 3 (.int .u64 (2 ^ x4 - 1))
  have hT2 := hT1.ch hb (by show ¬ t = gr; omega) (fun i hi => by rw [hi]; omega)
  have hc2 := hc1.nextNew hb (fun i hi => .inl (by rw [hi]; exact hgr))
  refine bodyPost_ret (v := cutV (1 + ↑x1 + ↑x2) (1 + ↑x1 + ↑x2 + ↑x3) (1 + ↑x1) (2 ^ x4 - 1)) ?_ rfl ⟨⟨1 + x1 + x2, 1 + x1 + x2 + x3, 1 + x1, 2 ^ x4 - 1⟩, by simp [cutV, Int.natCast_add], ⟨⟨by simp, by simp; omega, by simp, by simp, by simp; omega, ?_, ?_⟩, x4, yx4, rfl⟩, hT2, hc2⟩
  · simp [results, Try.results14, go_sem, cutV, r0, r1, r2, r3]
  · show (0 : Int) ≤ 2 ^ x4 - 1; omega
  · show (2 : Int) ^ x4 - 1 < 18446744073709551616; omega

/-- a text out of the tape, of at most n bytes -/
def TextRes (t B M n : Nat) (w : World) (e : Ending) (w' : World) : Prop := ∃ (A : Option Addr) (cap : Nat) (zs : List Int), e = .returned (.slice A zs.length cap) ∧ zs.length ≤ n ∧ (∀ z ∈ zs, 0 ≤ z ∧ z ≤ 255) ∧
  w'.ownsRow w.heap.size 5 1 (.slice A zs.length cap) zs.length (zs.map (.int .u8)) ∧ Tp w' t B (M + 2 + n) ∧ Ch (At t) w w'

set_option maxHeartbeats 1000000 in
theorem text24_any (t B M n : Nat) (w : World) (hT : Tp w t B M) (hn : n ≤ 1000) (hM : M ≤ 281474976710656) :
    Calls Try.prog 15 #[.pointer (some ⟨t, 0, none⟩), .int .i64 n] w (TextRes t B M n w) := by
  go_enter Try.func15, Try.ntmps15
  go_wp2_with fail
  refine (tapeNext_any t B M 5 _ hT (by omega) (by omega)).mono ?_
  clear hT
  rintro e w1 ⟨x1, rfl, hx, hT, hch⟩
  have y1 : x1 < 5 := by omega
  clear hx
  go_wp2_with fail
  have b1 : (n : Int) + 1 ≤ 9223372036854775807 := by omega
  have b2 : M + 1 ≤ 1125899906842624 := by omega
  have X := tapeNext_any t B (M + 1) ((n : Int) + 1) w1 hT b1 b2
  refine X.mono ?_
  clear X b1 b2
  clear hT
  rintro e w2 ⟨x2, rfl, hx, hT, hch2⟩
  have y2 : x2 ≤ n := by omega
  clear hx
  have HB := Lib.hid (tapeBytes_any t B (M + 1 + 1) x2 (1 + x1) w2 hT (by omega) (by omega) (by omega))
  rw [show ((1 + x1 : Nat) : Int) = 1 + (x1 : Int) by omega] at HB
  go_wp2_with fail
  refine HB.out.mono ?_
  clear HB
  rintro e w3 ⟨A, cap, zs, rfl, hlen, hz, hown, hT3, hch3⟩
  subst hlen
  have Hz := Lib.hid hz
  have hc := (hch.trans hch2).trans hch3
  have hs := (hch.trans hch2).size
  clear hz hch hch2 hch3 hT
  go_wp2_with fail
  go_ret
  exact ⟨A, cap, zs, rfl, y2, Hz.out, own_mono hown hs, hT3.more (by omega), hc⟩

set_option maxHeartbeats 1000000 in
theorem ends24_any (c : CutZ) (ok : c.Ok) (A : Option Addr) (cap B : Nat) (zs : List Int) (w : World) (hr : Row w B A (zs.map (.int .u8))) (hB : B ≤ w.heap.size) (hz : ∀ z ∈ zs, 0 ≤ z ∧ z ≤ 255) (hm : zs.length ≤ 1048576) :
    Calls Try.prog 16 #[cutV c.mn c.mx c.wn c.mask, .slice A zs.length cap] w fun e w' => ∃ A' cap', e = .returned (.tuple #[.slice A' (endsZ c zs).length cap', .bool true]) ∧
      w'.ownsRow w.heap.size 3 1 (.slice A' (endsZ c zs).length cap') (endsZ c zs).length (natV (endsZ c zs)) ∧ Below w.heap.size w w' := by
  have g0 := grew_alloc w (.cells #[.int .i64 c.mn, .int .i64 c.mx, .int .i64 c.wn, .int .u64 c.mask] 28)
  have HC := Lib.hid (ends_any c ok A cap B zs _ (hr.below g0 hB) (by simp; omega) hz hm)
  unfold cutV at HC ⊢
  clear hz
  go_enter Try.func16, Try.ntmps16
  go_wp2_with fail
  refine HC.out.mono ?_
  rintro e w1 ⟨A1, c1, rfl, hown, hb⟩
  have hown' := own_mono hown g0.size
  have hb1 := Grew.trans g0 hb
  clear hown hb g0 HC
  go_wp2_with fail
  go_ret2
  exact ⟨A1, c1, rfl, hown', hb1⟩

theorem known24_ends : endsZ ⟨2, 4, 1, 1⟩ [1, 1, 0, 0, 0, 0, 3, 5] = [2, 6, 8] := by decide +kernel
theorem natV_map (l : List Nat) : natV l = (l.map fun n : Nat => (n : Int)).map (.int .i64) := by simp [natV]

set_option maxHeartbeats 1000000 in
theorem known24_any (w : World) : Calls Try.prog 17 #[] w fun e w' => e = .returned (.bool true) ∧ Below w.heap.size w w' := by
  have ok : CutZ.Ok ⟨2, 4, 1, 1⟩ := ⟨by decide, by decide, by decide, by decide, by decide, by decide, by decide⟩
  have g0 := grew_alloc w (.cells #[.int .u8 1, .int .u8 1, .int .u8 0, .int .u8 0, .int .u8 0, .int .u8 0, .int .u8 3, .int .u8 5] 5)
  have hrow : Row (w.alloc (.cells #[.int .u8 1, .int .u8 1, .int .u8 0, .int .u8 0, .int .u8 0, .int .u8 0, .int .u8 3, .int .u8 5] 5)) (w.heap.size + 1) (some ⟨w.heap.size, 0, none⟩) (([1, 1, 0, 0, 0, 0, 3, 5] : List Int).map (.int .u8)) := by
    have := (Blk.new w 5 #[.int .u8 1, .int .u8 1, .int .u8 0, .int .u8 0, .int .u8 0, .int .u8 0, .int .u8 3, .int .u8 5]).row
    simpa using this
  have HC := Lib.hid (ends_any ⟨2, 4, 1, 1⟩ ok _ 8 _ [1, 1, 0, 0, 0, 0, 3, 5] _ hrow (by simp) (by simp) (by simp))
  rw [known24_ends] at HC
  unfold cutV at HC
  clear hrow
  go_enter Try.func17, Try.ntmps17
  go_wp2_with fail
  refine HC.out.mono ?_
  clear HC
  rintro e w1 ⟨A1, c1, rfl, hown, hb⟩
  have hb1 := Grew.trans g0 hb
  clear hb g0
  have g1 := grew_alloc w1 (.cells #[.int .i64 2, .int .i64 6, .int .i64 8] 3)
  have hr1 : Row (w1.alloc (.cells #[.int .i64 2, .int .i64 6, .int .i64 8] 3)) (w1.alloc (.cells #[.int .i64 2, .int .i64 6, .int .i64 8] 3)).heap.size A1 (([2, 6, 8] : List Int).map (.int .i64)) := by
    have := own_row hown
    exact (this.below g1 (Nat.le_refl _)).more g1.size
  have hr2 := (Blk.new w1 3 #[.int .i64 2, .int .i64 6, .int .i64 8]).row
  have HS := sameInts_any A1 (some ⟨w1.heap.size, 0, none⟩) c1 3 _ [2, 6, 8] [2, 6, 8] _ hr1 hr2 (by simp) (by simp)
  rw [eqZ_same] at HS
  simp only [List.length_cons, List.length_nil, Nat.zero_add, Nat.reduceAdd] at HS
  have HS' := Lib.hid HS
  clear HS hr1 hr2 hown
  go_wp2_with fail
  refine HS'.out.mono ?_
  rintro e w2 ⟨rfl, hd⟩
  go_wp2_with fail
  go_ret
  exact ⟨by simp, Grew.trans hb1 (Grew.trans g1 (hd.below _))⟩

end Go.Proofs.Ytnbbbmmpkjiejaa
