/-
  Cut25, Build25, Build25R.
-/
import Derived.Test.YtnjhipnfhapngaaTexts
import Derived.Test.YtnjhipnfhapngaaKnown25
import Derived.Test.YtnjhipnfhapngaaRefCut
namespace Go.Proofs.Ytnjhipnfhapngaa
/- Cut25:
  stockyardlaw25.cut: small parameters.
-/
section
set_option linter.unusedVariables false
set_option linter.unusedSimpArgs false
set_option linter.unnecessarySimpa false
open Go.RowKit
attribute [local go_sem ↓] Go.wp_at_zero Go.wp_at_succ

set_option maxHeartbeats 2000000 in
theorem cut25_any (t B M : Nat) (w : World) (hT : Tp w t B M) (hM : M ≤ 562949953421312) :
    Calls Try.prog 49 #[.pointer (some ⟨t, 0, none⟩)] w (MadeRes t B M w) := by
  have htl := hT.lt
  have hle := hT.le
  have g0 := grew_alloc w (.cells #[.int .i64 0, .int .i64 0, .int .i64 0, .int .u64 0] 83)
  have hBr := Blk.new w 83 #[.int .i64 0, .int .i64 0, .int .i64 0, .int .u64 0]
  have hT0 := hT.of g0
  have Hnr : Hid (¬ At t w.heap.size) := Lib.hid (by show ¬ w.heap.size = t; omega)
  go_enter Try.func49, Try.ntmps49
  go_wp2_with fail
  refine (tapeNext_any t B M 3 _ hT0 (by omega) (by omega)).mono ?_
  rintro e w1 ⟨x1, rfl, hx1, hT1, hch1⟩
  have y1 : x1 < 3 := by omega
  replace hBr := hBr.ch hch1 Hnr.out
  have hchA : Ch (At t) w w1 := (Ch.of_below g0).trans hch1
  clear g0 hT0 hch1 hT hx1
  generalize hgr : w.heap.size = gr at *
  have HGr := Lib.hid hgr
  clear hgr
  have g1 := grew_alloc w1 (.cells #[.int .i64 0, .int .i64 0, .int .i64 (1 + x1), .int .u64 0] 83)
  have hBc := Blk.new w1 83 #[.int .i64 0, .int .i64 0, .int .i64 (1 + x1), .int .u64 0]
  have hgrc : gr ≠ w1.heap.size := Nat.ne_of_lt hBr.lt
  replace hBr := hBr.of g1
  have hT2 := hT1.of g1
  have htl1 := hT1.lt
  have Hne : Hid (¬ At t w1.heap.size) := Lib.hid (by show ¬ w1.heap.size = t; omega)
  have hs1 := hchA.size
  replace hchA := hchA.next g1
  go_wp2_with fail
  clear hT1 g1
  generalize w1.alloc (.cells #[.int .i64 0, .int .i64 0, .int .i64 (1 + x1), .int .u64 0] 83) = w2 at *
  generalize w1.heap.size = gc at *
  clear w1
  have Hrc : Hid (¬ At gc gr) := Lib.hid (by show ¬ gr = gc; exact hgrc)
  have Htc : Hid (¬ At gc t) := Lib.hid (by show ¬ t = gc; omega)
  have Hbc : Hid (∀ i, At gc i → B ≤ i) := Lib.hid (fun i hi => by rw [hi]; omega)
  have hsc : w.heap.size ≤ gc := hs1
  have hT := hT2
  clear hT2
  have cl := hBc.cell 2
  simp only [List.getElem?_toArray, List.getElem?_cons_zero, List.getElem?_cons_succ] at cl
  refine wp_region_cls (Ch (At t) w2) 4 (by kernel_rfl) ?_
  have hc0 := (Ch.refl (At t) w2).drew
  refine AllC.head 0 3 (fuel := 4) (by first | exact fun h k => Grew.trans h k | exact fun h k => cls_grew h k) (hc0) (by rfl) (by kernel_rfl) ?_
  simp only [List.take_succ_cons, List.take_zero, List.drop_succ_cons, List.drop_zero]
  repeat (first
    | (refine HeadC.val (by rfl) ?_
       apply Exists.intro
       refine ⟨fun w' hw' => ?_, ?_⟩
       · (have hf_0 := hw'.cell cl Hne.out; (go_simp) <;> (try go_ints) <;> with_reducible rfl)
       try simp only [Act.put, List.setIfInBounds_toArray, List.set_cons_zero, List.set_cons_succ])
    | (refine HeadC.shut (by rfl) ?_
       try simp only [Act.put, List.setIfInBounds_toArray, List.set_cons_zero, List.set_cons_succ]))
  refine HeadC.nil ?_
  refine AllC.one 3 (by kernel_rfl) rfl ?_
  intro wg hg1 K hK
  go_simp
  have hg' : Grew w2 wg := (grew_drew _).trans hg1
  refine (tapeNext_any t B (M + 1) 3 _ (hT.of hg') (by omega) (by omega)).mono ?_
  clear hT
  rintro e w6 ⟨x2, rfl, hx, hT, hch⟩
  have yx2 : x2 < 3 := by omega
  have hc5 : Ch (At t) w2 w6 := (Ch.of_below hg').trans hch
  refine hK.out _ _ hc5 ?_
  clear hK K hch hg' hg1 hx hc0 cl
  try simp only [Act.put, List.setIfInBounds_toArray, List.set_cons_zero, List.set_cons_succ]
  refine AllC.tail 4 (by rfl) (by kernel_rfl) ?_
  intro w5 hwt
  simp only [List.drop_succ_cons, List.drop_zero]
  replace hc5 := hc5.next hwt
  replace hT := hT.of hwt
  clear hwt
  replace hBc := hBc.ch hc5 Hne.out
  replace hBr := hBr.ch hc5 Hnr.out
  replace hchA := hchA.trans hc5
  have q0 := hBc.cell 0
  have q1 := hBc.frozen 0
  simp only [List.getElem?_toArray, List.getElem?_cons_zero, List.getElem?_cons_succ] at q0
  clear hc5
  go_wp2_with fail
  clear q0 q1
  have hcs := (Ch.refl (At gc) w5).set_at 0 (.int .i64 (1 + ↑x1 + ↑x2))
  replace hBc := hBc.set_ 0 (.int .i64 (1 + ↑x1 + ↑x2))
  replace hBr := hBr.ch hcs Hrc.out
  replace hT := hT.ch hcs Htc.out Hbc.out
  replace hchA := hchA.nextNew hcs (fun i hi => .inl (by rw [hi]; exact hsc))
  simp only [List.setIfInBounds_toArray, List.set_cons_zero, List.set_cons_succ] at hBc
  generalize w5.setCell ⟨gc, 0, none⟩ (.int .i64 (1 + ↑x1 + ↑x2)) = wn at *
  clear hcs w5
  have cl := hBc.cell 0
  simp only [List.getElem?_toArray, List.getElem?_cons_zero, List.getElem?_cons_succ] at cl
  refine wp_region_cls (Ch (At t) wn) 4 (by kernel_rfl) ?_
  have hc0 := (Ch.refl (At t) wn).drew
  refine AllC.head 0 3 (fuel := 4) (by first | exact fun h k => Grew.trans h k | exact fun h k => cls_grew h k) (hc0) (by rfl) (by kernel_rfl) ?_
  simp only [List.take_succ_cons, List.take_zero, List.drop_succ_cons, List.drop_zero]
  repeat (first
    | (refine HeadC.val (by rfl) ?_
       apply Exists.intro
       refine ⟨fun w' hw' => ?_, ?_⟩
       · (have hf_0 := hw'.cell cl Hne.out; (go_simp) <;> (try go_ints) <;> with_reducible rfl)
       try simp only [Act.put, List.setIfInBounds_toArray, List.set_cons_zero, List.set_cons_succ])
    | (refine HeadC.shut (by rfl) ?_
       try simp only [Act.put, List.setIfInBounds_toArray, List.set_cons_zero, List.set_cons_succ]))
  refine HeadC.nil ?_
  refine AllC.one 3 (by kernel_rfl) rfl ?_
  intro wg hg1 K hK
  go_simp
  have hg' : Grew wn wg := (grew_drew _).trans hg1
  refine (tapeNext_any t B (M + 2) 9 _ (hT.of hg') (by omega) (by omega)).mono ?_
  clear hT
  rintro e w6 ⟨x3, rfl, hx, hT, hch⟩
  have yx3 : x3 < 9 := by omega
  have hc5 : Ch (At t) wn w6 := (Ch.of_below hg').trans hch
  refine hK.out _ _ hc5 ?_
  clear hK K hch hg' hg1 hx hc0 cl
  try simp only [Act.put, List.setIfInBounds_toArray, List.set_cons_zero, List.set_cons_succ]
  refine AllC.tail 4 (by rfl) (by kernel_rfl) ?_
  intro w5 hwt
  simp only [List.drop_succ_cons, List.drop_zero]
  replace hc5 := hc5.next hwt
  replace hT := hT.of hwt
  clear hwt
  replace hBc := hBc.ch hc5 Hne.out
  replace hBr := hBr.ch hc5 Hnr.out
  replace hchA := hchA.trans hc5
  have q0 := hBc.cell 1
  have q1 := hBc.frozen 1
  simp only [List.getElem?_toArray, List.getElem?_cons_zero, List.getElem?_cons_succ] at q0
  clear hc5
  go_wp2_with fail
  clear q0 q1
  have hcs := (Ch.refl (At gc) w5).set_at 1 (.int .i64 (1 + ↑x1 + ↑x2 + ↑x3))
  replace hBc := hBc.set_ 1 (.int .i64 (1 + ↑x1 + ↑x2 + ↑x3))
  replace hBr := hBr.ch hcs Hrc.out
  replace hT := hT.ch hcs Htc.out Hbc.out
  replace hchA := hchA.nextNew hcs (fun i hi => .inl (by rw [hi]; exact hsc))
  simp only [List.setIfInBounds_toArray, List.set_cons_zero, List.set_cons_succ] at hBc
  generalize w5.setCell ⟨gc, 1, none⟩ (.int .i64 (1 + ↑x1 + ↑x2 + ↑x3)) = wn at *
  clear hcs w5
  refine (tapeNext_any t B (M + 3) 4 _ hT (by omega) (by omega)).mono ?_
  clear hT
  rintro e w5 ⟨x4, rfl, hx, hT, hch⟩
  have yx4 : x4 < 4 := by omega
  replace hBc := hBc.ch hch Hne.out
  replace hBr := hBr.ch hch Hnr.out
  replace hchA := hchA.trans hch
  have q0 := hBc.cell 3
  have q1 := hBc.frozen 3
  simp only [List.getElem?_toArray, List.getElem?_cons_zero, List.getElem?_cons_succ] at q0
  clear hch hx
  have p0 : (1 : Int) ≤ 2 ^ x4 := by rcases (by omega : x4 = 0 ∨ x4 = 1 ∨ x4 = 2 ∨ x4 = 3 ∨ x4 = 4) with h | h | h | h | h <;> subst h <;> decide
  have p1 : (2 : Int) ^ x4 ≤ 16 := by rcases (by omega : x4 = 0 ∨ x4 = 1 ∨ x4 = 2 ∨ x4 = 3 ∨ x4 = 4) with h | h | h | h | h <;> subst h <;> decide
  have d0 := hBc.cell 0
  have d1 := hBc.cell 1
  have d2 := hBc.cell 2
  have r0 := hBr.cell 0
  have r1 := hBr.cell 1
  have r2 := hBr.cell 2
  have r3 := hBr.cell 3
  have f0 := hBr.frozen 0
  have f1 := hBr.frozen 1
  have f2 := hBr.frozen 2
  have f3 := hBr.frozen 3
  simp only [List.getElem?_toArray, List.getElem?_cons_zero, List.getElem?_cons_succ] at d0 d1 d2 r0 r1 r2 r3
  have hgr : w.heap.size ≤ gr := by rw [HGr.out]; exact Nat.le_refl _
  have HC := Lib.hid hchA
  have HT := Lib.hid hT
  clear hchA hT hBc hBr
  go_wp2_with fail
  have ha := (Ch.refl (At gc) w5).set_at 3 (.int .u64 (2 ^ x4 - 1))
  have hT1 := HT.out.ch ha Htc.out Hbc.out
  have hc1 := HC.out.nextNew ha (fun i hi => .inl (by rw [hi]; exact hsc))
  have hb := ((((Ch.refl (At gr) (w5.setCell ⟨gc, 3, none⟩ (.int .u64 (2 ^ x4 - 1)))).set_at 0 (.int .i64 (1 + ↑x1 + ↑x2))).set_at 1 (.int .i64 (1 + ↑x1 + ↑x2 + ↑x3))).set_at 2 (.int .i64 (1 + ↑x1))).set_at 3 (.int .u64 (2 ^ x4 - 1))
  have hT2 := hT1.ch hb (by show ¬ t = gr; omega) (fun i hi => by rw [hi]; omega)
  have hc2 := hc1.nextNew hb (fun i hi => .inl (by rw [hi]; exact hgr))
  refine bodyPost_ret (v := cutV (1 + ↑x1 + ↑x2) (1 + ↑x1 + ↑x2 + ↑x3) (1 + ↑x1) (2 ^ x4 - 1)) ?_ rfl ⟨⟨1 + x1 + x2, 1 + x1 + x2 + x3, 1 + x1, 2 ^ x4 - 1⟩, by simp [cutV, Int.natCast_add], ⟨⟨by simp, by simp; omega, by simp, by simp, by simp; omega, ?_, ?_⟩, x4, by omega, rfl⟩, hT2, hc2⟩
  · simp [results, Try.results49, go_sem, cutV, r0, r1, r2, r3]
  · show (0 : Int) ≤ 2 ^ x4 - 1; omega
  · show (2 : Int) ^ x4 - 1 < 18446744073709551616; omega
end

/- Build25:
  manifest.Build for valid parameters.
-/
section
set_option linter.unusedVariables false
set_option linter.unusedSimpArgs false
set_option linter.unnecessarySimpa false
open Go.RowKit
attribute [local go_sem ↓] Go.wp_at_zero Go.wp_at_succ

/-- the IDs of byte strings -/
def idsL (ls : List (List Int)) : List IdZ := ls.map idOf
theorem idsL_of (ps : List Part) : idsL (ps.map Part.zs) = idsOf ps := by simp [idsL, idsOf, List.map_map, Function.comp_def]
/-- the chunks of a text -/
def pcsZ (c : CutZ) (zs : List Int) : List (List Int) := cutsL (lensZ c zs) zs
theorem bld_flat {ps : List Part} {c : CutZ} (ok : c.Ok) {zs : List Int} (h : ps.map Part.zs = pcsZ c zs) : flat ps = zs := by
  unfold pcsZ at h
  have : flat ps = (ps.map Part.zs).flatten := by unfold flat; rw [List.flatMap_def]
  rw [this, h, cutsL_flat, lensZ_sum ok, List.take_length]
theorem bld_mem {ps : List Part} {zs : List Int} (h : flat ps = zs) {p : Part} (hp : p ∈ ps) : (∀ z ∈ p.zs, z ∈ zs) ∧ p.zs.length ≤ zs.length := by
  subst h
  refine ⟨fun z hz => List.mem_flatMap.2 ⟨p, hp, hz⟩, ?_⟩
  obtain ⟨a, b, rfl⟩ := List.append_of_mem hp
  unfold flat
  rw [List.flatMap_append, List.flatMap_cons, List.length_append, List.length_append]
  omega
theorem bld_len {ps : List Part} {c : CutZ} (ok : c.Ok) {zs : List Int} (h : ps.map Part.zs = pcsZ c zs) : ps.length ≤ zs.length := by
  have := congrArg List.length h
  unfold pcsZ at this
  rw [List.length_map, cutsL_length] at this
  rw [this]
  exact lensZ_len ok zs
def BuildRes (c : CutZ) (zs : List Int) (w : World) (e : Ending) (w' : World) : Prop := ∃ (A : Option Addr) (cap : Nat) (L : Option Addr) (lc : Nat) (ps : List Part),
  e = .returned (.tuple #[.agg #[.int .i64 zs.length, .slice A ps.length cap], .slice L ps.length lc, .int .i64 0]) ∧ ps.map Part.zs = pcsZ c zs ∧
  w'.ownsRow w.heap.size 51 2 (.slice A ps.length cap) ps.length (idsC (idsOf ps)) ∧ Row w' w'.heap.size L (ps.map Part.v) ∧ Lie w' w'.heap.size ps ∧ Below w.heap.size w w'

/-- .. and no part is longer than its capacity -/
def BuildResC (c : CutZ) (zs : List Int) (w : World) (e : Ending) (w' : World) : Prop := ∃ (A : Option Addr) (cap : Nat) (L : Option Addr) (lc : Nat) (ps : List Part),
  e = .returned (.tuple #[.agg #[.int .i64 zs.length, .slice A ps.length cap], .slice L ps.length lc, .int .i64 0]) ∧ ps.map Part.zs = pcsZ c zs ∧
  w'.ownsRow w.heap.size 51 2 (.slice A ps.length cap) ps.length (idsC (idsOf ps)) ∧ Row w' w'.heap.size L (ps.map Part.v) ∧ Lie w' w'.heap.size ps ∧ Below w.heap.size w w' ∧ ∀ p ∈ ps, p.zs.length ≤ p.cap

set_option maxHeartbeats 2000000 in
theorem build25c_any (c : CutZ) (ok : c.Ok) (A : Option Addr) (cap B : Nat) (zs : List Int) (w : World) (hr : Row w B A (zs.map (.int .u8))) (hB : B ≤ w.heap.size) (hz : ∀ z ∈ zs, 0 ≤ z ∧ z ≤ 255) (hm : zs.length ≤ 1024) (hcap : zs.length ≤ cap) :
    Calls Try.prog 51 #[.agg #[.int .i64 c.mn, .int .i64 c.mx, .int .i64 c.wn, .int .u64 c.mask], .slice A zs.length cap] w (BuildResC c zs w) := by
  have Hz := Lib.hid hz
  have g0 := grew_alloc w (.cells #[.int .i64 c.mn, .int .i64 c.mx, .int .i64 c.wn, .int .u64 c.mask] 83)
  have hC := CutAt.new w c
  have g1 := grew_alloc (w.alloc (.cells #[.int .i64 c.mn, .int .i64 c.mx, .int .i64 c.wn, .int .u64 c.mask] 83)) (.cells #[.int .i64 0, .slice none 0 0] 31)
  have hR := Blk.new (w.alloc (.cells #[.int .i64 c.mn, .int .i64 c.mx, .int .i64 c.wn, .int .u64 c.mask] 83)) 31 #[.int .i64 0, .slice none 0 0]
  have hC1 := hC.of g1
  have gs : (w.alloc (.cells #[.int .i64 c.mn, .int .i64 c.mx, .int .i64 c.wn, .int .u64 c.mask] 83)).heap.size = w.heap.size + 1 := by simp
  have g01 := Grew.trans g0 g1
  have hr1 := hr.below g01 hB
  rw [gs] at hR
  clear hz hr hC g0 g1
  obtain ⟨d0, d1, d2, d3, d4⟩ := hC1.cells
  have HS := Lib.hid (fun W (h : Grew ((w.alloc (.cells #[.int .i64 c.mn, .int .i64 c.mx, .int .i64 c.wn, .int .u64 c.mask] 83)).alloc (.cells #[.int .i64 0, .slice none 0 0] 31)) W) => split_at' c ok A cap B zs W (hr1.below h (Nat.le_trans hB g01.size)) (Nat.le_trans (Nat.le_trans hB g01.size) h.size) Hz.out (by omega) hcap)
  go_enter Try.func51, Try.ntmps51
  go_wp2_with fail
  generalize (w.alloc (.cells #[.int .i64 c.mn, .int .i64 c.mx, .int .i64 c.wn, .int .u64 c.mask] 83)).alloc (.cells #[.int .i64 0, .slice none 0 0] 31) = w1 at *
  generalize hgc : w.heap.size = gc at *
  have HGc := Lib.hid hgc
  clear hgc
  refine (HS.out _ (Grew.refl _)).mono ?_
  clear HS d0 d1 d2 d3 d4 hC1 hr1
  rintro e w2 ⟨g, ps, rfl, hq, hF, hcuts, hb⟩
  have hgg : gc + 1 < g := by have := own_lt hq g rfl; have := hR.lt; omega
  have hag : gc + 1 < (⟨g, 0, none⟩ : Addr).block := hgg
  have hpa : ∀ p ∈ ps, ∀ ad, p.A = some ad → gc + 1 < ad.block := fun p hp ad e => by have := (hF p hp).2.1 ad e; omega
  have HCap := Lib.hid (fun p hp => (hF p hp).2.2)
  generalize (⟨g, 0, none⟩ : Addr) = ag at *
  have HCu := Lib.hid hcuts
  have hR2 := hR.of hb
  have hlen := bld_len ok hcuts
  have HFl := Lib.hid (bld_flat ok hcuts)
  have HMem := Lib.hid (fun (k : Nat) (h : k < ps.length) => bld_mem HFl.out (List.getElem_mem h))
  have hgw : Below gc w w2 := by have := Grew.trans g01 hb; unfold Grew at this; rwa [HGc.out] at this
  have hg1 := hR2.lt
  have hm1 : ps.length ≤ 1024 := by omega
  clear hb hcuts hR g01 gs
  go_wp2_with fail
  have hM := Blk.new w2 31 #[.int .i64 zs.length, .slice none 0 0]
  have g3 := grew_alloc w2 (.cells #[.int .i64 zs.length, .slice none 0 0] 31)
  have hR3 := hR2.of g3
  have hrl : Row (w2.alloc (.cells #[.int .i64 zs.length, .slice none 0 0] 31)) w2.heap.size (some ag) (ps.map Part.v) := (own_row hq).below g3 (Nat.le_refl _)
  have hF3 : ∀ p ∈ ps, Row (w2.alloc (.cells #[.int .i64 zs.length, .slice none 0 0] 31)) w2.heap.size p.A (p.zs.map (.int .u8)) := fun p hp => (hF p hp).1.below g3 (Nat.le_refl _)
  have hz3 : (w2.alloc (.cells #[.int .i64 zs.length, .slice none 0 0] 31)).heap.size = w2.heap.size + 1 := by simp
  have hgw3 : Below gc w (w2.alloc (.cells #[.int .i64 zs.length, .slice none 0 0] 31)) := hgw.alloc (by omega) _
  clear hq hF g3 hR2 hgw
  generalize w2.alloc (.cells #[.int .i64 zs.length, .slice none 0 0] 31) = w3 at *
  generalize w2.heap.size = g2 at *
  clear w2
  go_loopw [31] (fun i wr => ∃ (k : Nat) (Am : Option Addr) (cm : Nat), k ≤ ps.length ∧ i = .int .i64 k ∧ Blk wr g2 31 #[.int .i64 zs.length, .slice Am k cm] ∧
    wr.ownsRow (g2 + 1) 51 2 (.slice Am k cm) k (idsC (idsOf (ps.take k))) ∧ Ch (At g2) w3 wr) (fun i _ => ps.length - (intOf i).toNat)
  case atStart => exact ⟨0, none, 0, Nat.zero_le _, rfl, hM, World.ownsRow_nil _ _ _ _, Ch.refl _ _⟩
  case round =>
    obtain ⟨k, Am, cm, hk, rfl, hB', hown, hch⟩ := hrel
    by_cases hlt : k < ps.length
    · have hrk := hrl.ch hch (by omega) (fun i hi => by rw [hi]; exact Nat.le_refl _)
      obtain ⟨ad, hadd, hbl, hc⟩ := part_at hrk hlt
      have hFk := (hF3 _ (List.getElem_mem hlt)).ch hch (by omega) (fun i hi => by rw [hi]; exact Nat.le_refl _)
      have hbm := HMem.out k hlt
      have hsn := Lib.hid (idsOf_snoc ps k hlt)
      have hzb : Byt ps[k].zs := fun z hz => Hz.out z (hbm.1 z hz)
      have hzl : ps[k].zs.length ≤ 1024 := by omega
      have hpe : ps[k] = ⟨ps[k].A, ps[k].cap, ps[k].zs⟩ := rfl
      have hws := hch.size
      have hne1 : (Value.slice Am k cm).ownBlock ≠ some g2 := own_blk_ne hown hB' (by decide)
      obtain rfl : ag = ad := by injection hadd
      clear hbm hpe
      rw [show idOf ps[k].zs = (sumZ ps[k].zs, (ps[k].zs.length : Int)) from rfl] at hsn
      generalize ps[k].zs = ys at *
      generalize ps[k].A = pA at *
      generalize ps[k].cap = pc at *
      have b1 : wr.cell? ⟨g2, 1, none⟩ = some (.slice Am k cm) := (hB'.cell 1).trans rfl
      go_upto_region 10 with (fail)
      refine wp_region_cls (Ch (fun i => (Value.slice Am k cm).ownBlock = some i) wr) 6 (by kernel_rfl) ?_
      have hc0 := (Ch.refl (fun i => (Value.slice Am k cm).ownBlock = some i) wr).drew
      refine AllC.head 0 4 (fuel := 4) (by first | exact fun h k => Grew.trans h k | exact fun h k => cls_grew h k) (hc0) (by rfl) (by kernel_rfl) ?_
      simp only [List.take_succ_cons, List.take_zero, List.drop_succ_cons, List.drop_zero]
      repeat (first
        | (refine HeadC.val (by rfl) ?_
           apply Exists.intro
           refine ⟨fun w' hw' => ?_, ?_⟩
           · (have hf_0 := hw'.cell b1 hne1; (go_simp) <;> (try go_ints) <;> with_reducible rfl)
           try simp only [Act.put, List.setIfInBounds_toArray, List.set_cons_zero, List.set_cons_succ])
        | (refine HeadC.call (by rfl) ?_
           apply Exists.intro; apply Exists.intro
           refine ⟨fun w' hw' => ?_, ?_⟩
           · (have hf_0 := hw'.cell b1 hne1; (go_simp) <;> first | (refine ⟨?_, ?_⟩ <;> with_reducible rfl) | with_reducible rfl)
           apply Exists.intro
           refine ⟨fun w' hw' => ?_, ?_⟩
           · (first | exact of_any pA pc g2 ys w' (hFk.ch hw' (by omega) (fun i hi => by have := own_lt hown i hi; omega)) (by have := hw'.size; omega) hzb (by omega))
           try simp only [Act.put, List.setIfInBounds_toArray, List.set_cons_zero, List.set_cons_succ])
        | (refine HeadC.shut (by rfl) ?_
           try simp only [Act.put, List.setIfInBounds_toArray, List.set_cons_zero, List.set_cons_succ]))
      refine HeadC.nil ?_
      refine AllC.one 4 (by kernel_rfl) rfl ?_
      intro wg hg K hK
      go_simp
      have hg0 := (grew_drew wr).trans hg
      have hc7 : Ch (fun i => (Value.slice Am k cm).ownBlock = some i) wr (wg.alloc (.cells #[.int .u64 (sumZ ys), .int .i64 ys.length] 51)) := (Ch.of_below hg0).alloc _
      have hown7 := own_below hown (hg0.trans (grew_alloc wg (.cells #[.int .u64 (sumZ ys), .int .i64 ys.length] 51)))
      have hrow7 := Blk.row (Blk.new wg 51 #[.int .u64 (sumZ ys), .int .i64 ys.length])
      refine hK.out _ _ hc7 ?_
      clear hK K hg hc0
      try simp only [Act.put, List.setIfInBounds_toArray, List.set_cons_zero, List.set_cons_succ]
      have hsz7 : w3.heap.size ≤ (wg.alloc (.cells #[.int .u64 (sumZ ys), .int .i64 ys.length] 51)).heap.size := Nat.le_trans hws hc7.size
      generalize wg.alloc (.cells #[.int .u64 (sumZ ys), .int .i64 ys.length] 51) = w7 at *
      generalize wg.heap.size = g7 at *
      clear hg0 wg
      refine AllC.one 5 (by kernel_rfl) rfl ?_
      intro wg hg K hK
      have hown8 := own_below hown7 hg
      have hrow8 := hrow7.up hg (Nat.le_refl _)
      have hsz8 := Nat.le_trans hsz7 hg.size
      refine step_append_row rfl (.tmp 36) (.tmp 39) rfl (g2 + 1) elem_id (by rfl) hown8 _ (by rfl) (by rfl) hrow8 (by simp [Value.oneCell']) (by unfold maxLen; omega) (by omega) (by omega) ?_
      intro A8 c8 w8 hown9 hg8 hwh
      have hc8 : Ch (fun i => (Value.slice Am k cm).ownBlock = some i) wr w8 := (hc7.next hg).trans (Ch.of_own hg8)
      refine hK.out _ _ hc8 ?_
      have hch8 := hch.nextNew hc8 (fun i hi => .inl (by have := own_lt hown i hi; omega))
      have hB8 := hB'.ch hc8 hne1
      clear hK K hg hg8 hwh hown8 hrow8 hown7 hrow7 hc7 hc8 hsz8 hsz7
      try simp only [Act.put, List.setIfInBounds_toArray, List.set_cons_zero, List.set_cons_succ]
      refine AllC.tail 6 (by rfl) (by kernel_rfl) ?_
      intro wt hwt
      simp only [List.drop_succ_cons, List.drop_zero]
      have hown10 := own_below hown9 hwt
      have hch10 := hch8.next hwt
      have hB10 := hB8.of hwt
      have d10 : wt.cell? ⟨g2, 1, none⟩ = some (.slice Am k cm) := (hB10.cell 1).trans rfl
      have f10 := hB10.frozen 1
      clear hown9 hch8 hB8 hwt hB' b1 hown hch hc hFk hrk
      go_wp2_with fail
      go_roundw
      case rel =>
        have hne10 : (Value.slice A8 (k + 1) c8).ownBlock ≠ some g2 := own_blk_ne hown10 hB10 (by decide)
        refine ⟨k + 1, A8, c8, by omega, by go_num, ?_, ?_, hch10.trans ((Ch.refl (At g2) wt).set_at 1 _)⟩
        · exact hB10.set_ 1 _
        · rw [hsn.out, idsC_append]
          exact own_ch hown10 ((Ch.refl (At g2) wt).set_at 1 (.slice A8 (k + 1) c8)) (fun i hi h => hne10 (by rw [hi]; exact congrArg some h))
      case measure => simp [intOf]; omega
    · obtain rfl : k = ps.length := by omega
      rw [List.take_length] at hown
      have hR := hR3.ch hch (by show ¬ gc + 1 = g2; omega)
      have b0 : wr.cell? ⟨g2, 0, none⟩ = some (.int .i64 zs.length) := (hB'.cell 0).trans rfl
      have b1 : wr.cell? ⟨g2, 1, none⟩ = some (.slice Am ps.length cm) := (hB'.cell 1).trans rfl
      have r0 : wr.cell? ⟨gc + 1, 0, none⟩ = some (.int .i64 0) := (hR.cell 0).trans rfl
      have r1 : wr.cell? ⟨gc + 1, 1, none⟩ = some (.slice none 0 0) := (hR.cell 1).trans rfl
      have f0 := hR.frozen 0
      have f1 := hR.frozen 1
      have hRl := hR.lt
      go_wp2_with fail
      have hk4 := ((Ch.refl (At (gc + 1)) wr).set_at 0 (.int .i64 zs.length)).set_at 1 (.slice Am ps.length cm)
      have hown4 := own_ch hown hk4 (fun i hi h => by have := own_lt hown i hi; have h' : i = gc + 1 := h; omega)
      have hws := hch.size
      have hrl4 := ((hrl.ch hch (by omega) (fun i hi => by rw [hi]; exact Nat.le_refl _)).chA hk4 (by omega) (fun ad e h => by have h' : ad.block = gc + 1 := h; injection e with e; rw [← e] at h'; omega)).more (B' := ((wr.setCell ⟨gc + 1, 0, none⟩ (.int .i64 zs.length)).setCell ⟨gc + 1, 1, none⟩ (.slice Am ps.length cm)).heap.size) (by have := hk4.size; omega)
      have hlie : Lie ((wr.setCell ⟨gc + 1, 0, none⟩ (.int .i64 zs.length)).setCell ⟨gc + 1, 1, none⟩ (.slice Am ps.length cm)) ((wr.setCell ⟨gc + 1, 0, none⟩ (.int .i64 zs.length)).setCell ⟨gc + 1, 1, none⟩ (.slice Am ps.length cm)).heap.size ps := fun p hp =>
        (((hF3 p hp).ch hch (by omega) (fun i hi => by rw [hi]; exact Nat.le_refl _)).chA hk4 (by omega) (fun ad e h => by have h' : ad.block = gc + 1 := h; have := hpa p hp ad e; omega)).more (by have := hk4.size; omega)
      have h1 : Below gc w wr := Below.trans (B := gc) hgw3 (hch.below (by omega) (fun i hi => by have h' : i = g2 := hi; omega))
      have h2 : Below gc w ((wr.setCell ⟨gc + 1, 0, none⟩ (.int .i64 zs.length)).setCell ⟨gc + 1, 1, none⟩ (.slice Am ps.length cm)) := Below.trans (B := gc) h1 (hk4.below (by omega) (fun i hi => by have h' : i = gc + 1 := hi; omega))
      refine bodyPost_ret (v := .tuple #[.agg #[.int .i64 zs.length, .slice Am ps.length cm], .slice (some ag) ps.length ps.length, .int .i64 0]) ?_ rfl ⟨Am, cm, some ag, ps.length, ps, rfl, HCu.out, own_mono hown4 (by rw [HGc.out]; omega), hrl4, hlie, ?_, HCap.out⟩
      · simp [results, Try.results51, go_sem, r0, r1]
      · rw [HGc.out]; exact h2
theorem build25_any (c : CutZ) (ok : c.Ok) (A : Option Addr) (cap B : Nat) (zs : List Int) (w : World) (hr : Row w B A (zs.map (.int .u8))) (hB : B ≤ w.heap.size) (hz : ∀ z ∈ zs, 0 ≤ z ∧ z ≤ 255) (hm : zs.length ≤ 1024) (hcap : zs.length ≤ cap) :
    Calls Try.prog 51 #[.agg #[.int .i64 c.mn, .int .i64 c.mx, .int .i64 c.wn, .int .u64 c.mask], .slice A zs.length cap] w (BuildRes c zs w) :=
  (build25c_any c ok A cap B zs w hr hB hz hm hcap).mono fun e w' ⟨A1, c1, L1, l1, ps, h1, h2, h3, h4, h5, h6, _⟩ => ⟨A1, c1, L1, l1, ps, h1, h2, h3, h4, h5, h6⟩
end

/- Build25R:
  stockyardref25.Build for valid parameters; stockyardref25.Same of equal manifests.
-/
section
set_option linter.unusedVariables false
set_option linter.unusedSimpArgs false
set_option linter.unnecessarySimpa false
open Go.RowKit
attribute [local go_sem ↓] Go.wp_at_zero Go.wp_at_succ

theorem sum_idsOf {ps : List Part} {c : CutZ} (ok : c.Ok) {zs : List Int} (h : ps.map Part.zs = pcsZ c zs) : sumN (idsOf ps) = (zs.length : Int) := by
  rw [totP_of, ← flat_len, bld_flat ok h]

set_option maxHeartbeats 2000000 in
theorem refBuild25_any (c : CutZ) (ok : c.Ok) (A : Option Addr) (cap B : Nat) (zs : List Int) (w : World) (hr : Row w B A (zs.map (.int .u8))) (hB : B ≤ w.heap.size) (hz : ∀ z ∈ zs, 0 ≤ z ∧ z ≤ 255) (hm : zs.length ≤ 1024) (hcap : zs.length ≤ cap) :
    Calls Try.prog 52 #[.agg #[.int .i64 c.mn, .int .i64 c.mx, .int .i64 c.wn, .int .u64 c.mask], .slice A zs.length cap] w (BuildRes c zs w) := by
  have Hz := Lib.hid hz
  have g0 := grew_alloc w (.cells #[.int .i64 c.mn, .int .i64 c.mx, .int .i64 c.wn, .int .u64 c.mask] 83)
  have hC := CutAt.new w c
  have g1 := grew_alloc (w.alloc (.cells #[.int .i64 c.mn, .int .i64 c.mx, .int .i64 c.wn, .int .u64 c.mask] 83)) (.cells #[.int .i64 0, .slice none 0 0] 31)
  have hR := Blk.new (w.alloc (.cells #[.int .i64 c.mn, .int .i64 c.mx, .int .i64 c.wn, .int .u64 c.mask] 83)) 31 #[.int .i64 0, .slice none 0 0]
  have hC1 := hC.of g1
  have gs : (w.alloc (.cells #[.int .i64 c.mn, .int .i64 c.mx, .int .i64 c.wn, .int .u64 c.mask] 83)).heap.size = w.heap.size + 1 := by simp
  have g01 := Grew.trans g0 g1
  have hr1 := hr.below g01 hB
  rw [gs] at hR
  clear hz hr hC g0 g1
  obtain ⟨d0, d1, d2, d3, d4⟩ := hC1.cells
  have HS := Lib.hid (fun W (h : Grew ((w.alloc (.cells #[.int .i64 c.mn, .int .i64 c.mx, .int .i64 c.wn, .int .u64 c.mask] 83)).alloc (.cells #[.int .i64 0, .slice none 0 0] 31)) W) => refEnds_any c ok A cap B zs W (hr1.below h (Nat.le_trans hB g01.size)) (Nat.le_trans (Nat.le_trans hB g01.size) h.size) Hz.out (by omega) hcap)
  go_enter Try.func52, Try.ntmps52
  go_wp2_with fail
  have hBw : B ≤ ((w.alloc (.cells #[.int .i64 c.mn, .int .i64 c.mx, .int .i64 c.wn, .int .u64 c.mask] 83)).alloc (.cells #[.int .i64 0, .slice none 0 0] 31)).heap.size := Nat.le_trans hB g01.size
  generalize (w.alloc (.cells #[.int .i64 c.mn, .int .i64 c.mx, .int .i64 c.wn, .int .u64 c.mask] 83)).alloc (.cells #[.int .i64 0, .slice none 0 0] 31) = w1 at *
  generalize hgc : w.heap.size = gc at *
  have HGc := Lib.hid hgc
  clear hgc
  refine (HS.out _ (Grew.refl _)).mono ?_
  clear HS d0 d1 d2 d3 d4 hC1
  rintro e w2 ⟨A2, c2, rfl, hown2, hb⟩
  have hR2 := hR.of hb
  have hgw : Below gc w w2 := by have := Grew.trans g01 hb; unfold Grew at this; rwa [HGc.out] at this
  have hr2 := hr1.below hb hBw
  have hBw2 := Nat.le_trans hBw hb.size
  have hg1 := hR.lt
  have hs1 := hb.size
  rw [endsZ_length] at hown2 ⊢
  have hll := lensZ_len ok zs
  have hm1 : (lensZ c zs).length ≤ 1024 := by omega
  have HLs := Lib.hid (lensZ_sum ok zs)
  have HLp := Lib.hid (fun n (h : n ∈ lensZ c zs) => (lensZ_pos ok zs n h).1)
  have HPc := Lib.hid (show cutsL (lensZ c zs) zs = pcsZ c zs from rfl)
  have hrow2 : Row w2 w2.heap.size A2 (natV (psums 0 (lensZ c zs))) := own_row hown2
  have HPl := Lib.hid (psums_length (lensZ c zs) 0)
  clear hb hown2 hr1 hR
  generalize lensZ c zs = ls at *
  go_wp2_with fail
  have HQ := refCuts_any A cap w2.heap.size zs A2 c2 ls w2 (hr2.more hBw2) hrow2 (Nat.le_refl _) hcap (by omega) (by rw [HLs.out]; exact Nat.le_refl _) HLp.out (by omega) HPl.out
  refine HQ.mono ?_
  clear HQ
  rintro e w3 ⟨L, lc, ps, rfl, hq, hTx, hcuts, hb⟩
  rw [HPc.out] at hcuts
  have HCu := Lib.hid hcuts
  have HSu := Lib.hid (sum_idsOf ok hcuts)
  have HFl := Lib.hid (bld_flat ok hcuts)
  have hlen := bld_len ok hcuts
  have hpl : (ps.map fun p => p.zs.length).sum ≤ 1024 := by
    have h : totP ps = zs.length := by rw [← flat_len, HFl.out]
    unfold totP at h
    omega
  have hR3 := hR2.of hb
  have hgw3 := Below.trans (B := gc) hgw (hb.mono (by omega))
  have hs2 := hb.size
  clear hcuts hb hR2 hgw hrow2 HLs HLp HPl
  go_wp2_with fail
  refine (refOf25_any L lc _ _ ps w3 hq hTx (fun p hp z hz' => Hz.out z ((bld_mem HFl.out hp).1 z hz')) (by omega) (by omega)).mono ?_
  rintro e w4 ⟨A4, c4, rfl, hown4, hb⟩
  rw [HSu.out]
  have hR4 := hR3.of hb
  have hq4 := own_below hq hb
  have hTx4 := hTx.of hb
  have hgw4 := Below.trans (B := gc) hgw3 (hb.mono (by omega))
  have hs3 := hb.size
  have r0 : w4.cell? ⟨gc + 1, 0, none⟩ = some (.int .i64 0) := (hR4.cell 0).trans rfl
  have r1 : w4.cell? ⟨gc + 1, 1, none⟩ = some (.slice none 0 0) := (hR4.cell 1).trans rfl
  have f0 := hR4.frozen 0
  have f1 := hR4.frozen 1
  have hRl := hR4.lt
  have hnb := blk_noBytes hR4 (by decide)
  clear hR3 hb hgw3 hq hTx
  go_wp2_with fail
  have hk4 := ((Ch.refl (At (gc + 1)) w4).set_at 0 (.int .i64 zs.length)).set_at 1 (.slice A4 ps.length c4)
  have hown5 := own_ch hown4 hk4 (fun i hi h => by have := own_lt hown4 i hi; have h' : i = gc + 1 := h; omega)
  have hq5 := own_ch hq4 hk4 (fun i hi h => by have := own_lt hq4 i hi; have h' : i = gc + 1 := h; omega)
  have hTx5 := hTx4.ch hk4 hnb
  have h2 := Below.trans (B := gc) hgw4 (hk4.below (by omega) (fun i hi => by have h' : i = gc + 1 := hi; omega))
  refine bodyPost_ret (v := .tuple #[.agg #[.int .i64 zs.length, .slice A4 ps.length c4], .slice L ps.length lc, .int .i64 0]) ?_ rfl ⟨A4, c4, L, lc, ps, rfl, HCu.out, own_mono hown5 (by rw [HGc.out]; omega), own_row hq5, hTx5.lie, ?_⟩
  · simp [results, Try.results52, go_sem, r0, r1]
  · rw [HGc.out]; exact h2

set_option maxHeartbeats 1000000 in
theorem sameIDs_yes (A A2 : Option Addr) (cap cap2 B : Nat) (l : List IdZ) (w : World) (hr : Row w B A (idsC l)) (hs : Row w B A2 (idsC l)) (hm : l.length ≤ 9223372036854775807) :
    Calls Try.prog 35 #[.slice A l.length cap, .slice A2 l.length cap2] w fun e w' => e = .returned (.bool true) ∧ Grew w w' := by
  go_enter Try.func35, Try.ntmps35
  go_wp2_with fail
  go_loopw [5] (fun i wr => ∃ k : Nat, k ≤ l.length ∧ i = .int .i64 k ∧ Drawn w wr) (fun i _ => l.length - (intOf i).toNat)
  case atStart => exact ⟨0, Nat.zero_le _, rfl, Drawn.refl _⟩
  case round =>
    obtain ⟨k, hk, rfl, hd⟩ := hrel
    by_cases hlt : k < l.length
    · obtain ⟨ad, rfl, _, d0, d1⟩ := ids_at (hr.keep (w' := wr) fun p _ => hd.cell p) hlt
      obtain ⟨ad2, rfl, _, f0, f1⟩ := ids_at (hs.keep (w' := wr) fun p _ => hd.cell p) hlt
      generalize l[k] = x at *
      obtain ⟨x1, x2⟩ := x
      simp only at d0 d1 f0 f1
      go_wp2_with fail
      go_quiet (fail)
      go_wp2
      go_roundw
      case rel => exact ⟨k + 1, by omega, by go_num, hd.drewN _⟩
      case measure => simp [intOf]; omega
    · go_wp2_with fail
      go_ret
      exact ⟨rfl, hd.below _⟩

set_option maxHeartbeats 1000000 in
theorem same25_yes (n : Int) (A A2 : Option Addr) (cap cap2 B : Nat) (l : List IdZ) (w : World) (hr : Row w B A (idsC l)) (hs : Row w B A2 (idsC l)) (hB : B ≤ w.heap.size) (hm : l.length ≤ 9223372036854775807) :
    Calls Try.prog 40 #[.agg #[.int .i64 n, .slice A l.length cap], .agg #[.int .i64 n, .slice A2 l.length cap2]] w fun e w' => e = .returned (.bool true) ∧ Grew w w' := by
  have g0 := grew_alloc w (.cells #[.int .i64 n, .slice A l.length cap] 31)
  have h0 := Blk.new w 31 #[.int .i64 n, .slice A l.length cap]
  have g1 := grew_alloc (w.alloc (.cells #[.int .i64 n, .slice A l.length cap] 31)) (.cells #[.int .i64 n, .slice A2 l.length cap2] 31)
  have h1 := Blk.new (w.alloc (.cells #[.int .i64 n, .slice A l.length cap] 31)) 31 #[.int .i64 n, .slice A2 l.length cap2]
  have gs : (w.alloc (.cells #[.int .i64 n, .slice A l.length cap] 31)).heap.size = w.heap.size + 1 := by simp
  rw [gs] at h1
  replace h0 := h0.of g1
  have g01 := Grew.trans g0 g1
  have hr1 := hr.below g01 hB
  have hs1 := hs.below g01 hB
  go_enter Try.func40, Try.ntmps40
  go_wp2_with fail
  generalize (w.alloc (.cells #[.int .i64 n, .slice A l.length cap] 31)).alloc (.cells #[.int .i64 n, .slice A2 l.length cap2] 31) = w1 at *
  have a0 : w1.cell? ⟨w.heap.size, 0, none⟩ = some (.int .i64 n) := (h0.cell 0).trans rfl
  have a1 : w1.cell? ⟨w.heap.size, 1, none⟩ = some (.slice A l.length cap) := (h0.cell 1).trans rfl
  have b0 : w1.cell? ⟨w.heap.size + 1, 0, none⟩ = some (.int .i64 n) := (h1.cell 0).trans rfl
  have b1 : w1.cell? ⟨w.heap.size + 1, 1, none⟩ = some (.slice A2 l.length cap2) := (h1.cell 1).trans rfl
  go_wp2_with fail
  refine (sameIDs_yes A A2 cap cap2 B l w1 hr1 hs1 hm).mono ?_
  rintro e w2 ⟨rfl, hb⟩
  go_wp2_with fail
  go_ret
  exact ⟨rfl, g01.trans hb⟩
end

theorem bld_chk {ps : List Part} {c : CutZ} (ok : c.Ok) {zs : List Int} (h : ps.map Part.zs = pcsZ c zs) (hz : zs.length ≤ 1024) : chkM zs.length (idsOf ps) = 0 := by
  have hf := bld_flat ok h
  have hl := bld_len ok h
  have hlen : ps.map (fun p => p.zs.length) = lensZ c zs := by
    have e := congrArg (List.map List.length) h
    unfold pcsZ at e
    rw [cutsL_lens _ _ (by rw [lensZ_sum ok]; exact Nat.le_refl _), List.map_map] at e
    exact e
  have hs : sumN (idsOf ps) = (zs.length : Int) := by rw [totP_of, ← flat_len, hf]
  refine (chkM_ok (by rw [idsOf_length]; omega) ?_ hs.symm (by omega)).symm
  rw [List.all_eq_true]
  intro x hx
  obtain ⟨p, hp, rfl⟩ := List.mem_map.1 hx
  have h1 : p.zs.length ∈ lensZ c zs := by rw [← hlen]; exact List.mem_map.2 ⟨p, hp, rfl⟩
  exact idOf_ok (lensZ_pos ok zs _ h1).1 (by have := (bld_mem hf hp).2; omega)

end Go.Proofs.Ytnjhipnfhapngaa
