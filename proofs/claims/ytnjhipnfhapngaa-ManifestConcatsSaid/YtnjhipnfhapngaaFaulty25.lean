/-
  stockyardlaw25.faulty: a manifest with at most one fault.
-/
import Derived.Test.YtnjhipnfhapngaaBack25
namespace Go.Proofs.Ytnjhipnfhapngaa
set_option linter.unusedVariables false
set_option linter.unusedSimpArgs false
set_option linter.unnecessarySimpa false
open Go.RowKit
attribute [local go_sem ↓] Go.wp_at_zero Go.wp_at_succ

/-- what faulty gives -/
def FaultyRes (t B M : Nat) (w : World) (e : Ending) (w' : World) : Prop := ∃ (n : Int) (A : Option Addr) (c : Nat) (ids : List IdZ), e = .returned (.agg #[.int .i64 n, .slice A ids.length c]) ∧ ids.length ≤ 6 ∧ (∀ x ∈ ids, WfI x) ∧ -1 ≤ n ∧ n ≤ 100000 ∧
  w'.ownsRow w.heap.size 51 2 (.slice A ids.length c) ids.length (idsC ids) ∧ Tp w' t B (M + 100) ∧ Ch (At t) w w'
theorem faulty_end {t B M gc k : Nat} {w w' : World} {n : Int} {A : Option Addr} {c : Nat} {ids : List IdZ} {e : Ending} (he : e = .returned (.agg #[.int .i64 n, .slice A k c])) (hk : k = ids.length ∧ k ≤ 6) (hw : ∀ x ∈ ids, WfI x) (h1 : -1 ≤ n) (h2 : n ≤ 100000)
    (ho : w'.ownsRow gc 51 2 (.slice A k c) k (idsC ids)) (hT : Tp w' t B (M + 100)) (hch : Ch (At t) w w') (hg : w.heap.size = gc) : FaultyRes t B M w e w' := by
  obtain ⟨rfl, hk⟩ := hk
  subst hg
  exact ⟨n, A, c, ids, he, hk, hw, h1, h2, ho, hT, hch⟩
theorem idsC_setN (v : Int) : ∀ (l : List IdZ) (k : Nat) (h : k < l.length), (idsC l).set (k * 2 + 1) (.int .i64 v) = idsC (l.set k (l[k].1, v))
  | x :: l, 0, _ => rfl
  | x :: l, k + 1, h => by
    have h' : k < l.length := by simpa using h
    have e : ∀ m, idsC (x :: m) = .int .u64 x.1 :: .int .i64 x.2 :: idsC m := fun m => rfl
    rw [List.set_cons_succ, e, e, show (k + 1) * 2 + 1 = k * 2 + 1 + 1 + 1 by omega, List.set_cons_succ, List.set_cons_succ, idsC_setN v l k h']
    rfl
theorem idsC_setS (v : Int) : ∀ (l : List IdZ) (k : Nat) (h : k < l.length), (idsC l).set (k * 2) (.int .u64 v) = idsC (l.set k (v, l[k].2))
  | x :: l, 0, _ => rfl
  | x :: l, k + 1, h => by
    have h' : k < l.length := by simpa using h
    have e : ∀ m, idsC (x :: m) = .int .u64 x.1 :: .int .i64 x.2 :: idsC m := fun m => rfl
    rw [List.set_cons_succ, e, e, show (k + 1) * 2 = k * 2 + 1 + 1 by omega, List.set_cons_succ, List.set_cons_succ, idsC_setS v l k h']
    rfl
theorem wf_set {l : List IdZ} (h : ∀ x ∈ l, WfI x) (k : Nat) {y : IdZ} (hy : WfI y) : ∀ x ∈ l.set k y, WfI x := fun x hx => (List.mem_or_eq_of_mem_set hx).elim (h x) (fun e => e ▸ hy)

set_option maxRecDepth 4000 in
set_option maxHeartbeats 4000000 in
theorem faulty25_any (t B M : Nat) (w : World) (hT : Tp w t B M) (hM : M ≤ 281474976710656) (hBw : B ≤ w.heap.size) :
    Calls Try.prog 43 #[.pointer (some ⟨t, 0, none⟩)] w (FaultyRes t B M w) := by
  have htw := hT.lt
  have hR := Blk.new w 31 #[.int .i64 0, .slice none 0 0]
  have gR := grew_alloc w (.cells #[.int .i64 0, .slice none 0 0] 31)
  have hT1 := hT.of gR
  have hch1 : Ch (At t) w (w.alloc (.cells #[.int .i64 0, .slice none 0 0] 31)) := Ch.of_below gR
  go_enter Try.func43, Try.ntmps43
  go_wp2_with fail
  have hws : (w.alloc (.cells #[.int .i64 0, .slice none 0 0] 31)).heap.size = w.heap.size + 1 := by simp
  generalize w.alloc (.cells #[.int .i64 0, .slice none 0 0] 31) = w1 at *
  generalize hgr : w.heap.size = gr at *
  have HGc := Lib.hid hgr
  clear hgr gR hT
  refine (pieces25_any _ _ _ 6 _ hT1 (by omega) (by omega)).mono ?_
  rintro e w2 ⟨Ap, cp, ps, rfl, hpl, hS, hownp, hTx, hT2, hch2, hcaps⟩
  have h12 := hch2.size
  replace hR := hR.ch hch2 (show ¬ gr = t by omega)
  replace hch1 := hch1.trans hch2
  have hsm := small_sum hS
  have HWf := Lib.hid (small_wf hS)
  have small_sz : Hid (∀ x ∈ idsOf ps, 0 ≤ x.2 ∧ x.2 ≤ 9) := Lib.hid (fun x hx => by
    obtain ⟨p, hp, rfl⟩ := List.mem_map.1 hx
    have := (hS p hp).2.1
    unfold idOf
    simp only
    omega)
  go_wp2_with fail
  refine (refOf25_any Ap cp _ _ ps w2 hownp hTx (fun p hp => (hS p hp).2.2) (by omega) (by have : totP ps ≤ 1073741824 := by omega
                                                                                           exact this)).mono ?_
  rintro e w3 ⟨A2, c2, rfl, hown, hb⟩
  rw [totP_of]
  have hB := Blk.new w3 31 #[.int .i64 (totP ps : Nat), .slice A2 ps.length c2]
  have gB := grew_alloc w3 (.cells #[.int .i64 (totP ps : Nat), .slice A2 ps.length c2] 31)
  have hb2 := Grew.trans hb gB
  have hgm : w2.heap.size ≤ w3.heap.size := hb.size
  replace hown := own_below hown gB
  replace hR := hR.of hb2
  have hT := hT2.of hb2
  have hch := hch1.next hb2
  have hcap2 := own_cap hown
  clear hb gB hb2 hT1 hT2 hch1 hch2 hownp hTx hcaps hS
  go_upto_region 2 with (fail)
  generalize w3.alloc (.cells #[.int .i64 (totP ps : Nat), .slice A2 ps.length c2] 31) = w4 at *
  generalize w3.heap.size = gm at *
  clear w3
  have hnm : totP ps ≤ 54 := by omega
  obtain ⟨nn, hnn⟩ : ∃ nn : Int, nn = (totP ps : Nat) := ⟨_, rfl⟩
  rw [← hnn] at hB
  obtain ⟨ids, hids⟩ : ∃ ids, ids = idsOf ps := ⟨_, rfl⟩
  have HL : Hid (ps.length = ids.length) := Lib.hid (by rw [hids, idsOf_length])
  have HW2 : Hid (∀ x ∈ ids, WfI x) := Lib.hid (by rw [hids]; exact HWf.out)
  have HK9 : Hid (∀ x ∈ ids, 0 ≤ x.2 ∧ x.2 ≤ 9) := Lib.hid (by rw [hids]; exact small_sz.out)
  rw [← hids] at hown
  clear hids HWf
  have hn1 : 0 ≤ nn := by omega
  have hn2 : nn ≤ 54 := by omega
  clear hnn hnm hsm
  generalize ps.length = pl at *
  by_cases hl0 : pl = 0
  · subst hl0
    have m0 := (hB.cell 0).trans (show _ = some (.int .i64 nn) from rfl)
    have m1 := (hB.cell 1).trans (show _ = some (.slice A2 0 c2) from rfl)
    have r0 := (hR.cell 0).trans (show _ = some (.int .i64 0) from rfl)
    have r1 := (hR.cell 1).trans (show _ = some (.slice none 0 0) from rfl)
    have f0 := hR.frozen 0
    have f1 := hR.frozen 1
    have hrl := hR.lt
    go_wp2_with fail
    have hk4 := ((Ch.refl (At gr) w4).set_at 0 (.int .i64 nn)).set_at 1 (.slice A2 0 c2)
    have hown4 := own_ch hown hk4 (fun i hi h => by have := own_lt hown i hi; have h' : i = gr := h; omega)
    have hT4 := hT.ch hk4 (show ¬ t = gr by omega) (fun i hi => by have h' : i = gr := hi; omega)
    have hch4 := hch.nextNew hk4 (fun i hi => .inl (by have h' : i = gr := hi; rw [HGc.out]; omega))
    refine bodyPost_ret (v := .agg #[.int .i64 nn, .slice A2 0 c2]) ?_ rfl (faulty_end (n := nn) (A := A2) (c := c2) (k := 0) (ids := ids) rfl ⟨HL.out, by omega⟩ HW2.out (by omega) (by omega) (own_mono hown4 (by omega)) (hT4.more (by omega)) hch4 HGc.out)
    simp [results, Try.results43, go_sem, r0, r1]
  · have hl0' : ¬ (pl : Int) = 0 := by omega
    have m0 := (hB.cell 0).trans (show _ = some (.int .i64 nn) from rfl)
    have m1 := (hB.cell 1).trans (show _ = some (.slice A2 pl c2) from rfl)
    go_wp2_with fail
    refine (tapeNext_any _ _ _ _ _ hT (by omega) (by omega)).mono ?_
    rintro e w5 ⟨k, rfl, hk, hT5, hch5⟩
    have hk' : k < pl := by omega
    replace hown := own_ch hown hch5 (fun g hg hs => by have := own_lt hown g hg; have h' : g = t := hs; omega)
    replace hR := hR.ch hch5 (show ¬ gr = t by omega)
    replace hB := hB.ch hch5 (show ¬ gm = t by omega)
    replace hch := hch.trans hch5
    replace hT := hT5
    clear hk hT5 hch5 m0 m1
    go_wp2_with fail
    refine (tapeNext_any _ _ _ _ _ hT (by omega) (by omega)).mono ?_
    rintro e w6 ⟨x, rfl, hx, hT5, hch5⟩
    replace hown := own_ch hown hch5 (fun g hg hs => by have := own_lt hown g hg; have h' : g = t := hs; omega)
    replace hR := hR.ch hch5 (show ¬ gr = t by omega)
    replace hB := hB.ch hch5 (show ¬ gm = t by omega)
    replace hch := hch.trans hch5
    replace hT := hT5
    clear hT5 hch5
    obtain ⟨g2, hA2, hg2, hg2l⟩ := own_some hown (by omega)
    subst hA2
    have hw6 := hch.size
    have hkl : k < ids.length := by rw [← HL.out]; exact hk'
    have m0 := (hB.cell 0).trans (show _ = some (.int .i64 nn) from rfl)
    have m1 := (hB.cell 1).trans (show _ = some (.slice (some ⟨g2, 0, none⟩) pl c2) from rfl)
    have s1 := (hown.cellAt (k * 2 + 1) (by omega)).trans (idsC_get ids k hkl).2
    have s0 := (hown.cellAt (k * 2) (by omega)).trans (idsC_get ids k hkl).1
    have s2 := hown.frozenAt (k * 2 + 1)
    have s3 := hown.frozenAt (k * 2)
    have hkn : ¬ At t gm := show ¬ gm = t by omega
    have hkg : ¬ At t g2 := show ¬ g2 = t by omega
    obtain ⟨z9, z10⟩ := HK9.out _ (List.getElem_mem hkl)
    by_cases x0 : x = 0
    · subst x0
      clear hx s0 s1 s2 s3
      go_upto_region 7 with (fail)
      refine wp_region_cls (Ch (At t) w6) 7 (by kernel_rfl) ?_
      have hc0 := (Ch.refl (At t) w6).drew
      refine AllC.head 0 3 (fuel := 5) (by first | exact fun h k => Grew.trans h k | exact fun h k => cls_grew h k) (hc0) (by rfl) (by kernel_rfl) ?_
      simp only [List.take_succ_cons, List.take_zero, List.drop_succ_cons, List.drop_zero]
      repeat (first
        | (refine HeadC.val (by rfl) ?_
           apply Exists.intro
           refine ⟨fun w' hw' => ?_, ?_⟩
           · (have hf_0 := hw'.cell m0 hkn; (go_simp) <;> (try go_ints) <;> with_reducible rfl)
           try simp only [Act.put, List.setIfInBounds_toArray, List.set_cons_zero, List.set_cons_succ])
        | (refine HeadC.shut (by rfl) ?_
           try simp only [Act.put, List.setIfInBounds_toArray, List.set_cons_zero, List.set_cons_succ]))
      refine HeadC.nil ?_
      refine AllC.one 3 (by kernel_rfl) rfl ?_
      intro wg hg1 K hK
      go_simp
      have hg' : Grew w6 wg := (grew_drew _).trans hg1
      refine (tapeNext_any _ _ _ _ _ (hT.of hg') (by omega) (by omega)).mono ?_
      rintro e w7 ⟨y, rfl, hy, hT7, hch7⟩
      have hc7 : Ch (At t) w6 w7 := (Ch.of_below hg').trans hch7
      refine hK.out _ _ hc7 ?_
      clear hK K hch7 hg' hg1 hc0
      try simp only [Act.put, List.setIfInBounds_toArray, List.set_cons_zero, List.set_cons_succ]
      refine AllC.head 4 3 (fuel := 1) (by first | exact fun h k => Grew.trans h k | exact fun h k => cls_grew h k) (hc7) (by rfl) (by kernel_rfl) ?_
      simp only [List.take_succ_cons, List.take_zero, List.drop_succ_cons, List.drop_zero]
      repeat (first
        | (refine HeadC.val (by rfl) ?_
           apply Exists.intro
           refine ⟨fun w' hw' => ?_, ?_⟩
           · ((go_simp) <;> (try go_ints) <;> with_reducible rfl)
           try simp only [Act.put, List.setIfInBounds_toArray, List.set_cons_zero, List.set_cons_succ])
        | (refine HeadC.shut (by rfl) ?_
           try simp only [Act.put, List.setIfInBounds_toArray, List.set_cons_zero, List.set_cons_succ]))
      refine HeadC.nil ?_
      refine AllC.tail 7 (by rfl) (by kernel_rfl) ?_
      intro wt hwt
      simp only [List.drop_succ_cons, List.drop_zero]
      have hc8 := hc7.next hwt
      replace hown := own_ch hown hc8 (fun g hg hs => by have := own_lt hown g hg; have h' : g = t := hs; omega)
      replace hR := hR.ch hc8 (show ¬ gr = t by omega)
      replace hB := hB.ch hc8 (show ¬ gm = t by omega)
      replace hch := hch.trans hc8
      have hT8 := hT7.of hwt
      clear hT hT7 hc7 hc8 hwt m0 m1
      have hT := hT8
      clear hT8
      have m0 := (hB.cell 0).trans (show _ = some (.int .i64 nn) from rfl)
      have m1 := (hB.cell 1).trans (show _ = some (.slice (some ⟨g2, 0, none⟩) pl c2) from rfl)
      have fz := hB.frozen 0
      have hbl := hB.lt
      have hy3 : y ≤ 2 := by omega
      go_upto_region 15 with (fail)
      have hk9 : Ch (At gm) wt (wt.setCell ⟨gm, 0, none⟩ (.int .i64 (nn + ((y : Int) - 1)))) := (Ch.refl (At gm) wt).set_at 0 _
      have hown9 := own_ch hown hk9 (fun g hg hs => own_blk_ne hown hB (by decide) (by rw [hg]; exact congrArg some hs))
      have hR9 := hR.ch hk9 (show ¬ gr = gm by omega)
      have hT9 := hT.ch hk9 (show ¬ t = gm by omega) (fun i hi => by have h' : i = gm := hi; omega)
      have hch9 := hch.nextNew hk9 (fun i hi => .inl (by have h' : i = gm := hi; rw [HGc.out]; omega))
      have hB9 : Blk (wt.setCell ⟨gm, 0, none⟩ (.int .i64 (nn + ((y : Int) - 1)))) gm 31 #[.int .i64 (nn + ((y : Int) - 1)), .slice (some ⟨g2, 0, none⟩) pl c2] := hB.set_ 0 _
      clear hk9 hown hR hT hch hB
      generalize wt.setCell ⟨gm, 0, none⟩ (.int .i64 (nn + ((y : Int) - 1))) = wv at *
      have hown := hown9
      have hR := hR9
      have hT := hT9
      have hch := hch9
      have hB := hB9
      clear hown9 hR9 hT9 hch9 hB9
      obtain ⟨n2, hn2e⟩ : ∃ n2 : Int, n2 = nn + ((y : Int) - 1) := ⟨_, rfl⟩
      rw [← hn2e] at hB
      have hn3 : -1 ≤ n2 := by omega
      have hn4 : n2 ≤ 9000 := by omega
      clear hn2e
      have m0 := (hB.cell 0).trans (show _ = some (.int .i64 n2) from rfl)
      have m1 := (hB.cell 1).trans (show _ = some (.slice (some ⟨g2, 0, none⟩) pl c2) from rfl)
      have r0 := (hR.cell 0).trans (show _ = some (.int .i64 0) from rfl)
      have r1 := (hR.cell 1).trans (show _ = some (.slice none 0 0) from rfl)
      have f0 := hR.frozen 0
      have f1 := hR.frozen 1
      have hrl := hR.lt
      go_wp2_with fail
      have hk4 := ((Ch.refl (At gr) wv).set_at 0 (.int .i64 n2)).set_at 1 (.slice (some ⟨g2, 0, none⟩) pl c2)
      have hown4 := own_ch hown hk4 (fun i hi h => by have := own_lt hown i hi; have h' : i = gr := h; omega)
      have hT4 := hT.ch hk4 (show ¬ t = gr by omega) (fun i hi => by have h' : i = gr := hi; omega)
      have hch4 := hch.nextNew hk4 (fun i hi => .inl (by have h' : i = gr := hi; rw [HGc.out]; omega))
      refine bodyPost_ret (v := .agg #[.int .i64 n2, .slice (some ⟨g2, 0, none⟩) pl c2]) ?_ rfl (faulty_end (n := n2) (A := (some ⟨g2, 0, none⟩)) (c := c2) (k := pl) (ids := ids) rfl ⟨HL.out, by omega⟩ HW2.out (by omega) (by omega) (own_mono hown4 (by omega)) (hT4.more (by omega)) hch4 HGc.out)
      simp [results, Try.results43, go_sem, r0, r1]
    by_cases x1 : x = 1
    · subst x1
      clear hx x0 s0 s3
      go_upto_region 15 with (fail)
      have hst := hown.stored (k * 2 + 1) (.int .i64 0)
      have hk9 : Ch (At g2) w6 (w6.setCell ⟨g2, k * 2 + 1, none⟩ (.int .i64 0)) := Ch.of_grown hst.2
      have hown9 := hst.1
      rw [idsC_setN _ ids k hkl] at hown9
      have hg2m : g2 ≠ gm := fun h => own_blk_ne hown hB (by decide) (congrArg some h)
      have hR9 := hR.ch hk9 (show ¬ gr = g2 by omega)
      have hB9 := hB.ch hk9 (show ¬ gm = g2 by omega)
      have hT9 := hT.ch hk9 (show ¬ t = g2 by omega) (fun i hi => by have h' : i = g2 := hi; omega)
      have hch9 := hch.nextNew hk9 (fun i hi => .inl (by have h' : i = g2 := hi; rw [HGc.out]; omega))
      clear hk9 hst hown hR hT hch hB
      generalize w6.setCell ⟨g2, k * 2 + 1, none⟩ (.int .i64 0) = wu at *
      have hown := hown9
      have hR := hR9
      have hT := hT9
      have hch := hch9
      have hB := hB9
      clear hown9 hR9 hT9 hch9 hB9
      have HL3 : Hid (pl = (ids.set k (ids[k].1, 0)).length) := Lib.hid (by rw [List.length_set]; exact HL.out)
      have HW3 : Hid (∀ x ∈ ids.set k (ids[k].1, 0), WfI x) := Lib.hid (wf_set HW2.out k (by
        obtain ⟨⟨a1, a2⟩, a3, a4⟩ := HW2.out _ (List.getElem_mem hkl)
        refine ⟨⟨?_, ?_⟩, ?_, ?_⟩ <;> simp only <;> omega))
      generalize ids.set k (ids[k].1, 0) = ids3 at *
      have m0 := (hB.cell 0).trans (show _ = some (.int .i64 nn) from rfl)
      have m1 := (hB.cell 1).trans (show _ = some (.slice (some ⟨g2, 0, none⟩) pl c2) from rfl)
      have r0 := (hR.cell 0).trans (show _ = some (.int .i64 0) from rfl)
      have r1 := (hR.cell 1).trans (show _ = some (.slice none 0 0) from rfl)
      have f0 := hR.frozen 0
      have f1 := hR.frozen 1
      have hrl := hR.lt
      go_wp2_with fail
      have hk4 := ((Ch.refl (At gr) wu).set_at 0 (.int .i64 nn)).set_at 1 (.slice (some ⟨g2, 0, none⟩) pl c2)
      have hown4 := own_ch hown hk4 (fun i hi h => by have := own_lt hown i hi; have h' : i = gr := h; omega)
      have hT4 := hT.ch hk4 (show ¬ t = gr by omega) (fun i hi => by have h' : i = gr := hi; omega)
      have hch4 := hch.nextNew hk4 (fun i hi => .inl (by have h' : i = gr := hi; rw [HGc.out]; omega))
      refine bodyPost_ret (v := .agg #[.int .i64 nn, .slice (some ⟨g2, 0, none⟩) pl c2]) ?_ rfl (faulty_end (n := nn) (A := (some ⟨g2, 0, none⟩)) (c := c2) (k := pl) (ids := ids3) rfl ⟨HL3.out, by omega⟩ HW3.out (by omega) (by omega) (own_mono hown4 (by omega)) (hT4.more (by omega)) hch4 HGc.out)
      simp [results, Try.results43, go_sem, r0, r1]
    by_cases x2 : x = 2
    · subst x2
      clear hx x0 x1 s1 s2
      go_upto_region 15 with (fail)
      have hst := hown.stored (k * 2) (.int .u64 2305843009213693951)
      have hk9 : Ch (At g2) w6 (w6.setCell ⟨g2, k * 2, none⟩ (.int .u64 2305843009213693951)) := Ch.of_grown hst.2
      have hown9 := hst.1
      rw [idsC_setS _ ids k hkl] at hown9
      have hg2m : g2 ≠ gm := fun h => own_blk_ne hown hB (by decide) (congrArg some h)
      have hR9 := hR.ch hk9 (show ¬ gr = g2 by omega)
      have hB9 := hB.ch hk9 (show ¬ gm = g2 by omega)
      have hT9 := hT.ch hk9 (show ¬ t = g2 by omega) (fun i hi => by have h' : i = g2 := hi; omega)
      have hch9 := hch.nextNew hk9 (fun i hi => .inl (by have h' : i = g2 := hi; rw [HGc.out]; omega))
      clear hk9 hst hown hR hT hch hB
      generalize w6.setCell ⟨g2, k * 2, none⟩ (.int .u64 2305843009213693951) = wu at *
      have hown := hown9
      have hR := hR9
      have hT := hT9
      have hch := hch9
      have hB := hB9
      clear hown9 hR9 hT9 hch9 hB9
      have HL3 : Hid (pl = (ids.set k (2305843009213693951, ids[k].2)).length) := Lib.hid (by rw [List.length_set]; exact HL.out)
      have HW3 : Hid (∀ x ∈ ids.set k (2305843009213693951, ids[k].2), WfI x) := Lib.hid (wf_set HW2.out k (by
        obtain ⟨⟨a1, a2⟩, a3, a4⟩ := HW2.out _ (List.getElem_mem hkl)
        refine ⟨⟨?_, ?_⟩, ?_, ?_⟩ <;> simp only <;> omega))
      generalize ids.set k (2305843009213693951, ids[k].2) = ids3 at *
      have m0 := (hB.cell 0).trans (show _ = some (.int .i64 nn) from rfl)
      have m1 := (hB.cell 1).trans (show _ = some (.slice (some ⟨g2, 0, none⟩) pl c2) from rfl)
      have r0 := (hR.cell 0).trans (show _ = some (.int .i64 0) from rfl)
      have r1 := (hR.cell 1).trans (show _ = some (.slice none 0 0) from rfl)
      have f0 := hR.frozen 0
      have f1 := hR.frozen 1
      have hrl := hR.lt
      go_wp2_with fail
      have hk4 := ((Ch.refl (At gr) wu).set_at 0 (.int .i64 nn)).set_at 1 (.slice (some ⟨g2, 0, none⟩) pl c2)
      have hown4 := own_ch hown hk4 (fun i hi h => by have := own_lt hown i hi; have h' : i = gr := h; omega)
      have hT4 := hT.ch hk4 (show ¬ t = gr by omega) (fun i hi => by have h' : i = gr := hi; omega)
      have hch4 := hch.nextNew hk4 (fun i hi => .inl (by have h' : i = gr := hi; rw [HGc.out]; omega))
      refine bodyPost_ret (v := .agg #[.int .i64 nn, .slice (some ⟨g2, 0, none⟩) pl c2]) ?_ rfl (faulty_end (n := nn) (A := (some ⟨g2, 0, none⟩)) (c := c2) (k := pl) (ids := ids3) rfl ⟨HL3.out, by omega⟩ HW3.out (by omega) (by omega) (own_mono hown4 (by omega)) (hT4.more (by omega)) hch4 HGc.out)
      simp [results, Try.results43, go_sem, r0, r1]
    by_cases x3 : x = 3
    · subst x3
      clear hx x0 x1 x2 s0 s3
      have HZ := Lib.hid (show ids[k].2 = ids[k].2 from rfl)
      go_upto_region 13 with (fail)
      refine wp_region_cls (Ch (At t) w6) 14 (by kernel_rfl) ?_
      have hc0 := (Ch.refl (At t) w6).drew
      refine AllC.head 0 3 (fuel := 12) (by first | exact fun h k => Grew.trans h k | exact fun h k => cls_grew h k) (hc0) (by rfl) (by kernel_rfl) ?_
      simp only [List.take_succ_cons, List.take_zero, List.drop_succ_cons, List.drop_zero]
      repeat (first
        | (refine HeadC.val (by rfl) ?_
           apply Exists.intro
           refine ⟨fun w' hw' => ?_, ?_⟩
           · (have hf_0 := hw'.cell m0 hkn; (go_simp) <;> (try go_ints) <;> with_reducible rfl)
           try simp only [Act.put, List.setIfInBounds_toArray, List.set_cons_zero, List.set_cons_succ])
        | (refine HeadC.shut (by rfl) ?_
           try simp only [Act.put, List.setIfInBounds_toArray, List.set_cons_zero, List.set_cons_succ]))
      refine HeadC.nil ?_
      refine AllC.head 5 6 (fuel := 6) (by first | exact fun h k => Grew.trans h k | exact fun h k => cls_grew h k) (hc0) (by rfl) (by kernel_rfl) ?_
      simp only [List.take_succ_cons, List.take_zero, List.drop_succ_cons, List.drop_zero]
      repeat (first
        | (refine HeadC.val (by rfl) ?_
           apply Exists.intro
           refine ⟨fun w' hw' => ?_, ?_⟩
           · (have hf_0 := hw'.cell m1 hkn; have hf_1 := hw'.cell s1 hkg; (go_simp) <;> (try go_ints) <;> with_reducible rfl)
           try simp only [Act.put, List.setIfInBounds_toArray, List.set_cons_zero, List.set_cons_succ])
        | (refine HeadC.shut (by rfl) ?_
           try simp only [Act.put, List.setIfInBounds_toArray, List.set_cons_zero, List.set_cons_succ]))
      refine HeadC.nil ?_
      refine AllC.one 3 (by kernel_rfl) rfl ?_
      intro wg hg1 K hK
      go_simp
      have hg' : Grew w6 wg := (grew_drew _).trans hg1
      refine (tapeNext_any _ _ _ _ _ (hT.of hg') (by omega) (by omega)).mono ?_
      rintro e w7 ⟨y, rfl, hy, hT7, hch7⟩
      have hc7 : Ch (At t) w6 w7 := (Ch.of_below hg').trans hch7
      refine hK.out _ _ hc7 ?_
      clear hK K hch7 hg' hg1 hc0
      try simp only [Act.put, List.setIfInBounds_toArray, List.set_cons_zero, List.set_cons_succ]
      refine AllC.head 4 1 (fuel := 4) (by first | exact fun h k => Grew.trans h k | exact fun h k => cls_grew h k) (hc7) (by rfl) (by kernel_rfl) ?_
      simp only [List.take_succ_cons, List.take_zero, List.drop_succ_cons, List.drop_zero]
      repeat (first
        | (refine HeadC.val (by rfl) ?_
           apply Exists.intro
           refine ⟨fun w' hw' => ?_, ?_⟩
           · ((go_simp) <;> (try go_ints) <;> with_reducible rfl)
           try simp only [Act.put, List.setIfInBounds_toArray, List.set_cons_zero, List.set_cons_succ])
        | (refine HeadC.shut (by rfl) ?_
           try simp only [Act.put, List.setIfInBounds_toArray, List.set_cons_zero, List.set_cons_succ]))
      refine HeadC.nil ?_
      refine AllC.head 11 3 (fuel := 1) (by first | exact fun h k => Grew.trans h k | exact fun h k => cls_grew h k) (hc7) (by rfl) (by kernel_rfl) ?_
      simp only [List.take_succ_cons, List.take_zero, List.drop_succ_cons, List.drop_zero]
      repeat (first
        | (refine HeadC.val (by rfl) ?_
           apply Exists.intro
           refine ⟨fun w' hw' => ?_, ?_⟩
           · ((go_simp) <;> (try go_ints) <;> with_reducible rfl)
           try simp only [Act.put, List.setIfInBounds_toArray, List.set_cons_zero, List.set_cons_succ])
        | (refine HeadC.shut (by rfl) ?_
           try simp only [Act.put, List.setIfInBounds_toArray, List.set_cons_zero, List.set_cons_succ]))
      refine HeadC.nil ?_
      refine AllC.tail 14 (by rfl) (by kernel_rfl) ?_
      intro wt hwt
      simp only [List.drop_succ_cons, List.drop_zero]
      have hc8 := hc7.next hwt
      replace hown := own_ch hown hc8 (fun g hg hs => by have := own_lt hown g hg; have h' : g = t := hs; omega)
      replace hR := hR.ch hc8 (show ¬ gr = t by omega)
      replace hB := hB.ch hc8 (show ¬ gm = t by omega)
      replace hch := hch.trans hc8
      have hT8 := hT7.of hwt
      clear hT hT7 hc7 hc8 hwt m0 m1
      have hT := hT8
      clear hT8
      have m0 := (hB.cell 0).trans (show _ = some (.int .i64 nn) from rfl)
      have m1 := (hB.cell 1).trans (show _ = some (.slice (some ⟨g2, 0, none⟩) pl c2) from rfl)
      have fz := hB.frozen 0
      have hbl := hB.lt
      have hy3 : y ≤ 1 := by omega
      clear s1 s2 hy
      go_upto_region 14 with (fail)
      have hk9 : Ch (At gm) wt (wt.setCell ⟨gm, 0, none⟩ (.int .i64 (nn + (8192 + (y : Int) - ids[k].2)))) := (Ch.refl (At gm) wt).set_at 0 _
      have hown9 := own_ch hown hk9 (fun g hg hs => own_blk_ne hown hB (by decide) (by rw [hg]; exact congrArg some hs))
      have hR9 := hR.ch hk9 (show ¬ gr = gm by omega)
      have hT9 := hT.ch hk9 (show ¬ t = gm by omega) (fun i hi => by have h' : i = gm := hi; omega)
      have hch9 := hch.nextNew hk9 (fun i hi => .inl (by have h' : i = gm := hi; rw [HGc.out]; omega))
      have hB9 : Blk (wt.setCell ⟨gm, 0, none⟩ (.int .i64 (nn + (8192 + (y : Int) - ids[k].2)))) gm 31 #[.int .i64 (nn + (8192 + (y : Int) - ids[k].2)), .slice (some ⟨g2, 0, none⟩) pl c2] := hB.set_ 0 _
      clear hk9 hown hR hT hch hB
      generalize wt.setCell ⟨gm, 0, none⟩ (.int .i64 (nn + (8192 + (y : Int) - ids[k].2))) = wv at *
      have hown := hown9
      have hR := hR9
      have hT := hT9
      have hch := hch9
      have hB := hB9
      clear hown9 hR9 hT9 hch9 hB9
      obtain ⟨n2, hn2e⟩ : ∃ n2 : Int, n2 = nn + (8192 + (y : Int) - ids[k].2) := ⟨_, rfl⟩
      rw [← hn2e] at hB
      have hn3 : -1 ≤ n2 := by omega
      have hn4 : n2 ≤ 9000 := by omega
      clear hn2e
      have m0 := (hB.cell 0).trans (show _ = some (.int .i64 n2) from rfl)
      have m1 := (hB.cell 1).trans (show _ = some (.slice (some ⟨g2, 0, none⟩) pl c2) from rfl)
      have hwv := hch.size
      clear fz hbl
      refine wp_region_cls (Ch (At t) wv) 8 (by kernel_rfl) ?_
      have hc0 := (Ch.refl (At t) wv).drew
      refine AllC.head 0 4 (fuel := 5) (by first | exact fun h k => Grew.trans h k | exact fun h k => cls_grew h k) (hc0) (by rfl) (by kernel_rfl) ?_
      simp only [List.take_succ_cons, List.take_zero, List.drop_succ_cons, List.drop_zero]
      repeat (first
        | (refine HeadC.val (by rfl) ?_
           apply Exists.intro
           refine ⟨fun w' hw' => ?_, ?_⟩
           · (have hf_0 := hw'.cell m1 hkn; (go_simp) <;> (try go_ints) <;> with_reducible rfl)
           try simp only [Act.put, List.setIfInBounds_toArray, List.set_cons_zero, List.set_cons_succ])
        | (refine HeadC.shut (by rfl) ?_
           try simp only [Act.put, List.setIfInBounds_toArray, List.set_cons_zero, List.set_cons_succ]))
      refine HeadC.nil ?_
      refine AllC.one 4 (by kernel_rfl) rfl ?_
      intro wg hg1 K hK
      go_simp
      have hg' : Grew wv wg := (grew_drew _).trans hg1
      refine (tapeNext_any _ _ _ _ _ (hT.of hg') (by omega) (by omega)).mono ?_
      rintro e w7 ⟨y, rfl, hy, hT7, hch7⟩
      have hc7 : Ch (At t) wv w7 := (Ch.of_below hg').trans hch7
      refine hK.out _ _ hc7 ?_
      clear hK K hch7 hg' hg1 hc0
      try simp only [Act.put, List.setIfInBounds_toArray, List.set_cons_zero, List.set_cons_succ]
      refine AllC.head 5 3 (fuel := 1) (by first | exact fun h k => Grew.trans h k | exact fun h k => cls_grew h k) (hc7) (by rfl) (by kernel_rfl) ?_
      simp only [List.take_succ_cons, List.take_zero, List.drop_succ_cons, List.drop_zero]
      repeat (first
        | (refine HeadC.val (by rfl) ?_
           apply Exists.intro
           refine ⟨fun w' hw' => ?_, ?_⟩
           · ((go_simp) <;> (try go_ints) <;> with_reducible rfl)
           try simp only [Act.put, List.setIfInBounds_toArray, List.set_cons_zero, List.set_cons_succ])
        | (refine HeadC.shut (by rfl) ?_
           try simp only [Act.put, List.setIfInBounds_toArray, List.set_cons_zero, List.set_cons_succ]))
      refine HeadC.nil ?_
      obtain ⟨wv2, hwv2⟩ : ∃ wv2, wv2 = wv := ⟨_, rfl⟩
      subst hwv2
      refine AllC.tail 8 (by rfl) (by kernel_rfl) ?_
      intro wt hwt
      simp only [List.drop_succ_cons, List.drop_zero]
      have hc8 := hc7.next hwt
      replace hown := own_ch hown hc8 (fun g hg hs => by have := own_lt hown g hg; have h' : g = t := hs; omega)
      replace hR := hR.ch hc8 (show ¬ gr = t by omega)
      replace hB := hB.ch hc8 (show ¬ gm = t by omega)
      replace hch := hch.trans hc8
      have hT8 := hT7.of hwt
      clear hT hT7 hc7 hc8 hwt m0 m1
      have hT := hT8
      clear hT8
      have m0 := (hB.cell 0).trans (show _ = some (.int .i64 n2) from rfl)
      have m1 := (hB.cell 1).trans (show _ = some (.slice (some ⟨g2, 0, none⟩) pl c2) from rfl)
      have fz := hB.frozen 0
      have hbl := hB.lt
      have hy4 : y ≤ 1 := by omega
      have s1 := (hown.cellAt (k * 2 + 1) (by omega)).trans (idsC_get ids k hkl).2
      have s2 := hown.frozenAt (k * 2 + 1)
      go_upto_region 15 with (fail)
      have hst := hown.stored (k * 2 + 1) (.int .i64 (8192 + (y : Int)))
      have hk9 : Ch (At g2) wt (wt.setCell ⟨g2, k * 2 + 1, none⟩ (.int .i64 (8192 + (y : Int)))) := Ch.of_grown hst.2
      have hown9 := hst.1
      rw [idsC_setN _ ids k hkl] at hown9
      have hg2m : g2 ≠ gm := fun h => own_blk_ne hown hB (by decide) (congrArg some h)
      have hR9 := hR.ch hk9 (show ¬ gr = g2 by omega)
      have hB9 := hB.ch hk9 (show ¬ gm = g2 by omega)
      have hT9 := hT.ch hk9 (show ¬ t = g2 by omega) (fun i hi => by have h' : i = g2 := hi; omega)
      have hch9 := hch.nextNew hk9 (fun i hi => .inl (by have h' : i = g2 := hi; rw [HGc.out]; omega))
      clear hk9 hst hown hR hT hch hB
      generalize wt.setCell ⟨g2, k * 2 + 1, none⟩ (.int .i64 (8192 + (y : Int))) = wu at *
      have hown := hown9
      have hR := hR9
      have hT := hT9
      have hch := hch9
      have hB := hB9
      clear hown9 hR9 hT9 hch9 hB9
      have HL3 : Hid (pl = (ids.set k (ids[k].1, 8192 + (y : Int))).length) := Lib.hid (by rw [List.length_set]; exact HL.out)
      have HW3 : Hid (∀ x ∈ ids.set k (ids[k].1, 8192 + (y : Int)), WfI x) := Lib.hid (wf_set HW2.out k (by
        obtain ⟨⟨a1, a2⟩, a3, a4⟩ := HW2.out _ (List.getElem_mem hkl)
        refine ⟨⟨?_, ?_⟩, ?_, ?_⟩ <;> simp only <;> omega))
      generalize ids.set k (ids[k].1, 8192 + (y : Int)) = ids3 at *
      have m0 := (hB.cell 0).trans (show _ = some (.int .i64 n2) from rfl)
      have m1 := (hB.cell 1).trans (show _ = some (.slice (some ⟨g2, 0, none⟩) pl c2) from rfl)
      have r0 := (hR.cell 0).trans (show _ = some (.int .i64 0) from rfl)
      have r1 := (hR.cell 1).trans (show _ = some (.slice none 0 0) from rfl)
      have f0 := hR.frozen 0
      have f1 := hR.frozen 1
      have hrl := hR.lt
      go_wp2_with fail
      have hk4 := ((Ch.refl (At gr) wu).set_at 0 (.int .i64 n2)).set_at 1 (.slice (some ⟨g2, 0, none⟩) pl c2)
      have hown4 := own_ch hown hk4 (fun i hi h => by have := own_lt hown i hi; have h' : i = gr := h; omega)
      have hT4 := hT.ch hk4 (show ¬ t = gr by omega) (fun i hi => by have h' : i = gr := hi; omega)
      have hch4 := hch.nextNew hk4 (fun i hi => .inl (by have h' : i = gr := hi; rw [HGc.out]; omega))
      refine bodyPost_ret (v := .agg #[.int .i64 n2, .slice (some ⟨g2, 0, none⟩) pl c2]) ?_ rfl (faulty_end (n := n2) (A := (some ⟨g2, 0, none⟩)) (c := c2) (k := pl) (ids := ids3) rfl ⟨HL3.out, by omega⟩ HW3.out (by omega) (by omega) (own_mono hown4 (by omega)) (hT4.more (by omega)) hch4 HGc.out)
      simp [results, Try.results43, go_sem, r0, r1]
    · have z0 : ¬ (x : Int) = 0 := by omega
      have z1 : ¬ (x : Int) = 1 := by omega
      have z2 : ¬ (x : Int) = 2 := by omega
      have z3 : ¬ (x : Int) = 3 := by omega
      clear s0 s1 s2 s3 m0 m1
      go_upto_region 15 with (fail)
      have m0 := (hB.cell 0).trans (show _ = some (.int .i64 nn) from rfl)
      have m1 := (hB.cell 1).trans (show _ = some (.slice (some ⟨g2, 0, none⟩) pl c2) from rfl)
      have r0 := (hR.cell 0).trans (show _ = some (.int .i64 0) from rfl)
      have r1 := (hR.cell 1).trans (show _ = some (.slice none 0 0) from rfl)
      have f0 := hR.frozen 0
      have f1 := hR.frozen 1
      have hrl := hR.lt
      go_wp2_with fail
      have hk4 := ((Ch.refl (At gr) w6).set_at 0 (.int .i64 nn)).set_at 1 (.slice (some ⟨g2, 0, none⟩) pl c2)
      have hown4 := own_ch hown hk4 (fun i hi h => by have := own_lt hown i hi; have h' : i = gr := h; omega)
      have hT4 := hT.ch hk4 (show ¬ t = gr by omega) (fun i hi => by have h' : i = gr := hi; omega)
      have hch4 := hch.nextNew hk4 (fun i hi => .inl (by have h' : i = gr := hi; rw [HGc.out]; omega))
      refine bodyPost_ret (v := .agg #[.int .i64 nn, .slice (some ⟨g2, 0, none⟩) pl c2]) ?_ rfl (faulty_end (n := nn) (A := (some ⟨g2, 0, none⟩)) (c := c2) (k := pl) (ids := ids) rfl ⟨HL.out, by omega⟩ HW2.out (by omega) (by omega) (own_mono hown4 (by omega)) (hT4.more (by omega)) hch4 HGc.out)
      simp [results, Try.results43, go_sem, r0, r1]

end Go.Proofs.Ytnjhipnfhapngaa
