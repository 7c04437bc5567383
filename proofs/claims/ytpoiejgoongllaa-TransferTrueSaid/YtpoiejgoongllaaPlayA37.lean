/-
  TakeBig37, Same29, Is37, Play37.
-/
import Derived.Test.YtpoiejgoongllaaTake37
import Derived.Test.YtpoiejgoongllaaRefTake37
import Derived.Test.YtpoiejgoongllaaChunks37
import Derived.Test.YtpoiejgoongllaaSame37
import Derived.BigQuiet
import Derived.Test.YtpoiejgoongllaaRefRv37
import Derived.Test.YtpoiejgoongllaaPkts37
import Derived.Test.YtpoiejgoongllaaTrue25
namespace Go.Proofs.Ytpoiejgoongllaa
/- TakeBig37:
  transfer.Take of packets of any size (as take37_any).
-/
section
section
set_option linter.unusedVariables false
set_option linter.unusedSimpArgs false
set_option linter.unnecessarySimpa false
open Go.RowKit
attribute [local go_sem ↓] Go.wp_at_zero Go.wp_at_succ

set_option maxRecDepth 100000 in
set_option maxHeartbeats 4000000 in
theorem take37_big {base g M : Nat} {L : RcL} {r : Rcv} (x : Pk) (w : World) (h : RcvIs w base g M L r) (ok : RcOk r) (hwf : WfI x.id) (hr : Row w w.heap.size x.p.A (x.p.zs.map (.int .u8))) (hz : Byt x.p.zs) (hm : x.p.zs.length ≤ 9223372036854775807) (hM : M ≤ 1125899906842624) (hbase : base ≤ w.heap.size) :
    Calls Try.prog 24 #[.pointer (some ⟨g, 0, none⟩), .agg #[.int .i64 x.kind, .int .u64 x.id.1, .int .i64 x.id.2, .int .i64 x.frm, x.p.v]] w (TakeRes base g M L r x.kind x.id x.frm x.p.zs w) := by
  obtain ⟨k, ⟨i1, i2⟩, f, pA, pc, zs⟩ := x
  simp only [Part.v] at hr hz hm hwf ⊢
  have g1 := grew_alloc w (.cells #[.int .i64 k, .int .u64 i1, .int .i64 i2, .int .i64 f, .slice pA zs.length pc] 55)
  have k1 := Blk.new w 55 #[.int .i64 k, .int .u64 i1, .int .i64 i2, .int .i64 f, .slice pA zs.length pc]
  have H := h.of g1
  have hrow := hr.up g1 (Nat.le_refl _)
  have hbase1 := Nat.le_trans hbase g1.size
  obtain ⟨n1, n2, n3, n4⟩ := ok.len
  have H0 := Lib.hid h
  have OK := Lib.hid ok
  have HZ := Lib.hid hz
  clear h ok hz hr
  go_enter Try.func24, Try.ntmps24
  go_wp2_with fail
  generalize w.alloc (.cells #[.int .i64 k, .int .u64 i1, .int .i64 i2, .int .i64 f, .slice pA zs.length pc] 55) = w1 at *
  have hgp0 : w.heap.size < w1.heap.size := k1.lt
  generalize hgp : w.heap.size = gp at *
  have HGp := Lib.hid hgp
  clear hgp
  have HG1 : Hid (Grew w w1) := Lib.hid g1
  clear g1
  have c1 := (k1.cell 1).trans (show _ = some (.int .u64 i1) from rfl)
  have c2 := (k1.cell 2).trans (show _ = some (.int .i64 i2) from rfl)
  refine wp_region_g 7 (by kernel_rfl) ?_
  refine AllC.head 0 7 (fuel := 1) (by first | exact fun h k => Grew.trans h k | exact fun h k => cls_grew h k) (grew_drew _) (by rfl) (by kernel_rfl) ?_
  simp only [List.take_succ_cons, List.take_zero, List.drop_succ_cons, List.drop_zero]
  repeat (first
    | (refine HeadC.val (by rfl) ?_
       apply Exists.intro
       refine ⟨fun w' hw' => ?_, ?_⟩
       · (have hf_0 := (H.of hw').cells.2.2.2.2.1; have hf_1 := cell_up hw' c1; have hf_2 := cell_up hw' c2; (go_simp) <;> (try go_ints) <;> with_reducible rfl)
       try simp only [Act.put, List.setIfInBounds_toArray, List.set_cons_zero, List.set_cons_succ])
    | (refine HeadC.call (by rfl) ?_
       apply Exists.intro; apply Exists.intro
       refine ⟨fun w' hw' => ?_, ?_⟩
       · (have hf_0 := (H.of hw').cells.2.2.2.2.1; have hf_1 := cell_up hw' c1; have hf_2 := cell_up hw' c2; (go_simp) <;> first | (refine ⟨?_, ?_⟩ <;> with_reducible rfl) | with_reducible rfl)
       apply Exists.intro
       refine ⟨fun w' hw' => ?_, ?_⟩
       · (first | exact index_id L.am L.cm w'.heap.size r.miss (i1, i2) w' (own_row (H.of hw').miss) (Nat.le_refl _) (by omega))
       try simp only [Act.put, List.setIfInBounds_toArray, List.set_cons_zero, List.set_cons_succ])
    | (refine HeadC.shut (by rfl) ?_
       try simp only [Act.put, List.setIfInBounds_toArray, List.set_cons_zero, List.set_cons_succ]))
  refine HeadC.nil ?_
  refine AllC.tail 7 (by rfl) (by kernel_rfl) ?_
  intro wt hwt
  simp only [List.drop_succ_cons, List.drop_zero]
  have hg2 : Grew w1 wt := (grew_drew _).trans hwt
  replace H := H.of hg2
  replace k1 := k1.of hg2
  replace hrow := hrow.up hg2 (by omega)
  replace HG1 := Lib.hid (HG1.out.trans hg2)
  have hgp1 := hg2.size
  clear c1 c2 hwt hg2
  have c1 := (k1.cell 1).trans (show _ = some (.int .u64 i1) from rfl)
  have c2 := (k1.cell 2).trans (show _ = some (.int .i64 i2) from rfl)
  go_wp2_with fail
  refine wp_region_g 7 (by kernel_rfl) ?_
  refine AllC.head 0 7 (fuel := 1) (by first | exact fun h k => Grew.trans h k | exact fun h k => cls_grew h k) (grew_drew _) (by rfl) (by kernel_rfl) ?_
  simp only [List.take_succ_cons, List.take_zero, List.drop_succ_cons, List.drop_zero]
  repeat (first
    | (refine HeadC.val (by rfl) ?_
       apply Exists.intro
       refine ⟨fun w' hw' => ?_, ?_⟩
       · (have hf_0 := (H.of hw').cells.2.2.2.1; have hf_1 := (H.of hw').getp' hwf; have hf_2 := cell_up hw' c1; have hf_3 := cell_up hw' c2; (go_simp) <;> (try go_ints) <;> with_reducible rfl)
       try simp only [Act.put, List.setIfInBounds_toArray, List.set_cons_zero, List.set_cons_succ])
    | (refine HeadC.shut (by rfl) ?_
       try simp only [Act.put, List.setIfInBounds_toArray, List.set_cons_zero, List.set_cons_succ]))
  refine HeadC.nil ?_
  refine AllC.tail 7 (by rfl) (by kernel_rfl) ?_
  intro wt hwt
  simp only [List.drop_succ_cons, List.drop_zero]
  -- behind the look-ups
  have hg2 : Grew _ wt := (grew_drew _).trans hwt
  replace H := H.of hg2
  replace k1 := k1.of hg2
  replace hrow := hrow.up hg2 (by omega)
  replace HG1 := Lib.hid (HG1.out.trans hg2)
  have hgp2 := hg2.size
  clear c1 c2 hwt hg2
  have e0 := (k1.cell 0).trans (show _ = some (.int .i64 k) from rfl)
  have e1 := (k1.cell 1).trans (show _ = some (.int .u64 i1) from rfl)
  have e2 := (k1.cell 2).trans (show _ = some (.int .i64 i2) from rfl)
  have e3 := (k1.cell 3).trans (show _ = some (.int .i64 f) from rfl)
  have e4 := (k1.cell 4).trans (show _ = some (.slice pA zs.length pc) from rfl)
  have HPO := Lib.hid (H.prefOwn (i1, i2))
  have hpl : (r.pref (i1, i2)).length ≤ 8192 := by
    by_cases hp : r.pref (i1, i2) = []
    · rw [hp]; simp
    · obtain ⟨p1, p2, _⟩ := OK.out.pref _ hp
      have := (OK.out.size (OK.out.sub _ p1)).2
      omega
  generalize hpa : (pvO L r (i1, i2)).1 = pa at *
  generalize hpc : (pvO L r (i1, i2)).2 = ppc at *
  generalize hpn : (r.pref (i1, i2)).length = pl at *
  have HPa := Lib.hid hpa
  have HPc := Lib.hid hpc
  have HPn := Lib.hid hpn
  clear hpa hpc hpn
  generalize hix : idxI r.miss (i1, i2) = ix at *
  have HIx := Lib.hid hix
  clear hix
  have H0' := H0
  by_cases hk2 : k = 2
  case neg =>
    have HB : Hid (¬ takesP r k (i1, i2) f zs) := Lib.hid (by unfold takesP; rintro ⟨t1, t2, t3, t4, t5, t6⟩; exact hk2 t1)
    clear hrow k1 H
    go_wp2_with fail
    go_ret
    exact ⟨L, by rw [takeR_bad HB.out]; rfl, by rw [takeR_bad HB.out]; exact (Stp.grew H0.out HG1.out).more (by omega)⟩
  subst hk2
  by_cases hl1 : 1 ≤ zs.length
  case neg =>
    have HB : Hid (¬ takesP r 2 (i1, i2) f zs) := Lib.hid (by unfold takesP; rintro ⟨t1, t2, t3, t4, t5, t6⟩; omega)
    have hl1I : (zs.length : Int) < 1 := by omega
    have hl1N : zs.length < 1 := by omega
    clear hrow k1 H
    go_wp2_with fail
    go_ret
    exact ⟨L, by rw [takeR_bad HB.out]; rfl, by rw [takeR_bad HB.out]; exact (Stp.grew H0.out HG1.out).more (by omega)⟩
  have hl1I : ¬ (zs.length : Int) < 1 := by omega
  have hl1N : ¬ zs.length < 1 := by omega
  by_cases hl2 : zs.length ≤ 1024
  case neg =>
    have HB : Hid (¬ takesP r 2 (i1, i2) f zs) := Lib.hid (by unfold takesP; rintro ⟨t1, t2, t3, t4, t5, t6⟩; omega)
    have hl2I : (1024 : Int) < (zs.length : Int) := by omega
    have hl2N : 1024 < zs.length := by omega
    clear hrow k1 H
    go_wp2_with fail
    go_ret
    exact ⟨L, by rw [takeR_bad HB.out]; rfl, by rw [takeR_bad HB.out]; exact (Stp.grew H0.out HG1.out).more (by omega)⟩
  have hl2I : ¬ (1024 : Int) < (zs.length : Int) := by omega
  have hl2N : ¬ 1024 < zs.length := by omega
  by_cases hmem : (i1, i2) ∈ r.miss
  case neg =>
    have HB : Hid (¬ takesP r 2 (i1, i2) f zs) := Lib.hid (by unfold takesP; rintro ⟨t1, t2, t3, t4, t5, t6⟩; exact hmem t4)
    have hixI : ix < 0 := Int.lt_of_le_of_lt (Int.le_of_eq (HIx.out.symm.trans (idxI_no hmem))) (by decide)
    clear hmem
    clear hrow k1 H
    go_wp2_with fail
    go_ret
    exact ⟨L, by rw [takeR_bad HB.out]; rfl, by rw [takeR_bad HB.out]; exact (Stp.grew H0.out HG1.out).more (by omega)⟩
  obtain ⟨n, rfl, hn⟩ : ∃ n : Nat, ix = (n : Int) ∧ n = r.miss.idxOf (i1, i2) := ⟨r.miss.idxOf (i1, i2), by rw [← HIx.out]; unfold idxI; rw [if_pos hmem], rfl⟩
  have hnl : n < r.miss.length := by rw [hn]; exact List.idxOf_lt_length_of_mem hmem
  have HN := Lib.hid hn
  have HMem := Lib.hid hmem
  have hixI : ¬ (n : Int) < 0 := by omega
  clear hn hmem
  by_cases hf : f = (pl : Int)
  case neg =>
    have HB : Hid (¬ takesP r 2 (i1, i2) f zs) := Lib.hid (by unfold takesP; rintro ⟨t1, t2, t3, t4, t5, t6⟩; rw [HPn.out] at t5; exact hf t5)
    clear hrow k1 H
    go_wp2_with fail
    go_ret
    exact ⟨L, by rw [takeR_bad HB.out]; rfl, by rw [takeR_bad HB.out]; exact (Stp.grew H0.out HG1.out).more (by omega)⟩
  subst hf
  have hwr : IntKind.i64.wrap ((pl : Int) + (zs.length : Int)) = (pl : Int) + (zs.length : Int) := Go.IntWalk.i64_in _ (by omega)
  by_cases hs : (pl : Int) + (zs.length : Int) ≤ i2
  case neg =>
    have HB : Hid (¬ takesP r 2 (i1, i2) (pl : Int) zs) := Lib.hid (by unfold takesP; rintro ⟨t1, t2, t3, t4, t5, t6⟩; rw [HPn.out] at t6; exact hs t6)
    have hsI : i2 < (pl : Int) + (zs.length : Int) := by omega
    clear hrow k1 H
    go_wp2_with fail
    go_ret
    exact ⟨L, by rw [takeR_bad HB.out]; rfl, by rw [takeR_bad HB.out]; exact (Stp.grew H0.out HG1.out).more (by omega)⟩
  have hsI : ¬ i2 < (pl : Int) + (zs.length : Int) := by omega
  have HT : Hid (takesP r 2 (i1, i2) (pl : Int) zs) := Lib.hid ⟨rfl, hl1, hl2, HMem.out, by rw [HPn.out], by rw [HPn.out]; exact hs⟩
  have HOp := HPO.out
  have hbt : base ≤ wt.heap.size := by omega
  have HRP := Lib.hid (rfl : r.pref (i1, i2) = r.pref (i1, i2))
  clear hwr
  go_upto_region 6 with (at_builtin; refine wpList_append_row rfl (.tmp 59) (.tmp 61) rfl base elem_u8 (by rfl) HOp _ (by rfl) (by simp) hrow (ones_u8 zs) (by unfold maxLen; omega) (by omega) hbt ?_; intro A3 c3 w3 hown3 hg3 hor3)
  have hyl : (r.pref (i1, i2) ++ zs).length = pl + zs.length := by rw [List.length_append, HPn.out]
  have HBys : Hid (Byt (r.pref (i1, i2) ++ zs)) := Lib.hid (fun z hz => by
    rcases List.mem_append.1 hz with h | h
    · by_cases hp : r.pref (i1, i2) = []
      · rw [hp] at h; cases h
      · exact (OK.out.pref _ hp).2.2 z h
    · exact HZ.out z h)
  have hne : r.pref (i1, i2) ++ zs ≠ [] := fun h => by rw [h] at hyl; simp at hyl; omega
  rw [← List.map_append] at hown3
  generalize hys : r.pref (i1, i2) ++ zs = ys at *
  have HYs := Lib.hid hys
  clear hys HRP
  have hc3 : Ch (fun k => (Value.slice pa pl ppc).ownBlock = some k) wt w3 := Ch.of_own hg3
  have hm9 : pl + zs.length ≤ 9216 := by omega
  generalize hmm : pl + zs.length = m at *
  have HM2 : Hid (ys.length = m) := Lib.hid hyl
  clear hmm hyl hg3
  have m3 := (hc3.cell H.cells.2.2.2.1 (own_blk_ne HOp H.blk (by decide)))
  have k3 := k1.ch hc3 (own_blk_ne HOp k1 (by decide))
  have mp3 := H.mp.ch hc3 (H.mp.ne_own HOp)
  have c1 := (k3.cell 1).trans (show _ = some (.int .u64 i1) from rfl)
  have c2 := (k3.cell 2).trans (show _ = some (.int .i64 i2) from rfl)
  clear e0 e1 e2 e3 e4 hrow
  refine wp_region_g 7 (by kernel_rfl) ?_
  refine AllC.head 0 7 (fuel := 1) (by first | exact fun h k => Grew.trans h k | exact fun h k => cls_grew h k) (grew_drew _) (by rfl) (by kernel_rfl) ?_
  simp only [List.take_succ_cons, List.take_zero, List.drop_succ_cons, List.drop_zero]
  repeat (first
    | (refine HeadC.val (by rfl) ?_
       apply Exists.intro
       refine ⟨fun w' hw' => ?_, ?_⟩
       · (have hf_0 := cell_up hw' m3; have hf_1 := cell_up hw' c1; have hf_2 := cell_up hw' c2; (go_simp) <;> (try go_ints) <;> with_reducible rfl)
       try simp only [Act.put, List.setIfInBounds_toArray, List.set_cons_zero, List.set_cons_succ])
    | (refine HeadC.shut (by rfl) ?_
       try simp only [Act.put, List.setIfInBounds_toArray, List.set_cons_zero, List.set_cons_succ]))
  refine HeadC.nil ?_
  refine AllC.tail 7 (by rfl) (by kernel_rfl) ?_
  intro wt hwt
  simp only [List.drop_succ_cons, List.drop_zero]
  have hg4 : Grew w3 wt := (grew_drew _).trans hwt
  refine wpList_store_id rfl (.tmp 66) (.tmp 68) (.tmp 69) rfl Try.underlying94 rfl (mp3.of hg4) (by unfold maxLen; omega) (i1, i2) rfl hwf rfl ?_
  intro w6 hM6 hch6
  have hown4 := own_below hown3 hg4
  have k6 := (k3.of hg4).ch hch6 (fun e => (mp3.of hg4).ne_blk (k3.of hg4) e.symm)
  have hc4 := hc3.next hg4
  rw [← HM2.out] at hM6 hown4 hor3
  rw [← HPa.out, ← HPc.out, ← HPn.out] at hc4 hor3
  have S1 := RcvIs.setPref H hne hc4 hown4 hor3 hM6 hch6
  have hown6 := own_ch hown4 hch6 (fun i hi e => (mp3.of hg4).ne_own hown4 (hi.trans (congrArg some e)))
  rw [HM2.out] at hown6
  have S01 := (Stp.grew H0.out HG1.out).trans S1
  have hb6 : base ≤ w6.heap.size := by have := hc4.size; have := hch6.size; omega
  clear hM6 hc4 hor3 hown4 mp3 k3 hch6 hg4 m3 hc3 HPO HOp c1 c2 hwt hown3 k1 S1 hbt
  try simp only [Act.put, List.setIfInBounds_toArray, List.set_cons_zero, List.set_cons_succ]
  have c2 := (k6.cell 2).trans (show _ = some (.int .i64 i2) from rfl)
  by_cases hlt : (m : Int) < i2
  · have HE := Lib.hid (takeR_more HT.out (by rw [HYs.out, HM2.out]; exact hlt))
    clear H
    go_wp2_with fail
    go_ret
    rw [HYs.out] at HE
    exact ⟨_, by rw [HE.out]; rfl, by rw [HE.out]; exact S01.more (by omega)⟩
  · go_upto_region 9 with (fail)
    have m3 : w6.cell? ⟨g, 3, none⟩ = some (.map (some L.bp)) := S01.is.cells.2.2.2.1
    have c1 := (k6.cell 1).trans (show _ = some (.int .u64 i1) from rfl)
    have HnP := Lib.hid (hnP_of S01.is hne)
    refine wp_region_g 6 (by kernel_rfl) ?_
    refine AllC.head 0 6 (fuel := 1) (by first | exact fun h k => Grew.trans h k | exact fun h k => cls_grew h k) (grew_drew _) (by rfl) (by kernel_rfl) ?_
    simp only [List.take_succ_cons, List.take_zero, List.drop_succ_cons, List.drop_zero]
    repeat (first
      | (refine HeadC.val (by rfl) ?_
         apply Exists.intro
         refine ⟨fun w' hw' => ?_, ?_⟩
         · (have hf_0 := cell_up hw' m3; have hf_1 := cell_up hw' c1; have hf_2 := cell_up hw' c2; (go_simp) <;> (try go_ints) <;> with_reducible rfl)
         try simp only [Act.put, List.setIfInBounds_toArray, List.set_cons_zero, List.set_cons_succ])
      | (refine HeadC.shut (by rfl) ?_
         try simp only [Act.put, List.setIfInBounds_toArray, List.set_cons_zero, List.set_cons_succ]))
    refine HeadC.nil ?_
    refine AllC.tail 6 (by rfl) (by kernel_rfl) ?_
    intro wt hwt
    simp only [List.drop_succ_cons, List.drop_zero]
    have hg7 : Grew w6 wt := (grew_drew _).trans hwt
    have I7 := S01.is.of hg7
    refine wpList_drop_id rfl (.tmp 79) (.tmp 81) rfl Try.underlying94 rfl I7.mp (i1, i2) rfl hwf ?_
    intro w8 hM8 hch8
    have S2 := RcvIs.dropPref I7 hM8 hch8
    have k8 := (k6.of hg7).ch hch8 (fun e => I7.mp.ne_blk (k6.of hg7) e.symm)
    have hown8 := own_ch (own_below hown6 hg7) hch8 (fun i hi e => I7.mp.ne_own (own_below hown6 hg7) (hi.trans (congrArg some e)))
    have S02 := (S01.trans (Stp.grew S01.is hg7)).trans S2
    have hb8 : base ≤ w8.heap.size := by have := hg7.size; have := hch8.size; omega
    simp only [updF_updF] at S02
    clear S01 S2 I7 hM8 hch8 k6 hown6 m3 c1 c2 hg7 hwt H hb6
    try simp only [Act.put, List.setIfInBounds_toArray, List.set_cons_zero, List.set_cons_succ]
    have c1 := (k8.cell 1).trans (show _ = some (.int .u64 i1) from rfl)
    have c2 := (k8.cell 2).trans (show _ = some (.int .i64 i2) from rfl)
    have hOf : ∀ W, Grew w8 W → Calls Try.prog 28 #[.slice A3 m c3] W fun e w' => e = .returned (.agg #[.int .u64 (sumZ ys), .int .i64 (m : Nat)]) ∧ Grew W w' := fun W hg => by
      have h := of_any A3 c3 W.heap.size ys W (own_row (own_below hown8 hg)) (Nat.le_refl _) HBys.out (by rw [HM2.out]; omega)
      rw [HM2.out] at h
      exact h
    have HOf := Lib.hid hOf
    clear hOf
    go_wp2_with fail
    refine wp_region_g 4 (by kernel_rfl) ?_
    refine AllC.head 0 4 (fuel := 1) (by first | exact fun h k => Grew.trans h k | exact fun h k => cls_grew h k) (grew_drew _) (by rfl) (by kernel_rfl) ?_
    simp only [List.take_succ_cons, List.take_zero, List.drop_succ_cons, List.drop_zero]
    repeat (first
      | (refine HeadC.val (by rfl) ?_
         apply Exists.intro
         refine ⟨fun w' hw' => ?_, ?_⟩
         · (have hf_0 := cell_up hw' c1; have hf_1 := cell_up hw' c2; (go_simp) <;> (try go_ints) <;> with_reducible rfl)
         try simp only [Act.put, List.setIfInBounds_toArray, List.set_cons_zero, List.set_cons_succ])
      | (refine HeadC.call (by rfl) ?_
         apply Exists.intro; apply Exists.intro
         refine ⟨fun w' hw' => ?_, ?_⟩
         · (have hf_0 := cell_up hw' c1; have hf_1 := cell_up hw' c2; (go_simp) <;> first | (refine ⟨?_, ?_⟩ <;> with_reducible rfl) | with_reducible rfl)
         apply Exists.intro
         refine ⟨fun w' hw' => ?_, ?_⟩
         · (first | exact HOf.out w' hw')
         try simp only [Act.put, List.setIfInBounds_toArray, List.set_cons_zero, List.set_cons_succ])
      | (refine HeadC.shut (by rfl) ?_
         try simp only [Act.put, List.setIfInBounds_toArray, List.set_cons_zero, List.set_cons_succ]))
    refine HeadC.nil ?_
    refine AllC.tail 4 (by rfl) (by kernel_rfl) ?_
    intro wt hwt
    simp only [List.drop_succ_cons, List.drop_zero]
    have hg9 : Grew w8 wt := (grew_drew _).trans hwt
    have HId : Hid (idOf ys = (sumZ ys, (m : Int))) := Lib.hid (by unfold idOf; rw [HM2.out])
    have S03 := S02.trans (Stp.grew S02.is hg9)
    have k9 := k8.of hg9
    have hown9 := own_below hown8 hg9
    have hb9 := Nat.le_trans hb8 hg9.size
    clear S02 k8 hown8 hwt c1 c2 HOf hg9 hb8
    generalize sumZ ys = sm at *
    have HLt : Hid (¬ ((ys.length : Nat) : Int) < i2) := Lib.hid (by rw [HM2.out]; omega)
    by_cases he : ((sm, (m : Int)) : IdZ) = (i1, i2)
    case neg =>
      have HE := Lib.hid (takeR_wrong HT.out (by rw [HYs.out]; exact HLt.out) (by rw [HYs.out, HId.out]; exact he))
      have HS := Lib.hid S03
      clear S03
      rcases id_ne he with hne2 | ⟨rfl, hne2⟩
      · clear he
        go_wp2_with fail
        go_ret
        exact ⟨_, by rw [HE.out]; rfl, by rw [HE.out]; exact HS.out.more (by omega)⟩
      · clear he
        go_wp2_with fail
        go_ret
        exact ⟨_, by rw [HE.out]; rfl, by rw [HE.out]; exact HS.out.more (by omega)⟩
    case pos =>
      have HE := Lib.hid (takeR_done HT.out (by rw [HYs.out]; exact HLt.out) (by rw [HYs.out, HId.out]; exact he))
      rw [HYs.out] at HE
      obtain ⟨rfl, rfl⟩ := Prod.mk.inj he
      clear he
      go_upto_region 12 with (fail)
      have mc3 : wt.cell? ⟨g, 2, none⟩ = some (.map (some L.bc)) := S03.is.cells.2.2.1
      have c1 := (k9.cell 1).trans (show _ = some (.int .u64 sm) from rfl)
      have c2 := (k9.cell 2).trans (show _ = some (.int .i64 (m : Nat)) from rfl)
      obtain ⟨wz, hwz⟩ : ∃ wz, wz = wt := ⟨_, rfl⟩
      subst hwz
      refine wp_region_g 7 (by kernel_rfl) ?_
      refine AllC.head 0 7 (fuel := 1) (by first | exact fun h k => Grew.trans h k | exact fun h k => cls_grew h k) (grew_drew _) (by rfl) (by kernel_rfl) ?_
      simp only [List.take_succ_cons, List.take_zero, List.drop_succ_cons, List.drop_zero]
      repeat (first
        | (refine HeadC.val (by rfl) ?_
           apply Exists.intro
           refine ⟨fun w' hw' => ?_, ?_⟩
           · (have hf_0 := cell_up hw' mc3; have hf_1 := cell_up hw' c1; have hf_2 := cell_up hw' c2; (go_simp) <;> (try go_ints) <;> with_reducible rfl)
           try simp only [Act.put, List.setIfInBounds_toArray, List.set_cons_zero, List.set_cons_succ])
        | (refine HeadC.shut (by rfl) ?_
           try simp only [Act.put, List.setIfInBounds_toArray, List.set_cons_zero, List.set_cons_succ]))
      refine HeadC.nil ?_
      refine AllC.tail 7 (by rfl) (by kernel_rfl) ?_
      intro wt hwt
      simp only [List.drop_succ_cons, List.drop_zero]
      have hg10 : Grew wz wt := (grew_drew _).trans hwt
      have I10 := S03.is.of hg10
      refine wpList_store_id rfl (.tmp 90) (.tmp 92) (.tmp 93) rfl Try.underlying94 rfl I10.mc (by unfold maxLen; omega) (sm, (m : Int)) rfl hwf rfl ?_
      intro w11 hM11 hch11
      rw [← HM2.out] at hM11
      have hown10 := own_below hown9 hg10
      rw [← HM2.out] at hown10
      have hnP := HnP.out
      rw [updF_updF] at hnP
      rw [HM2.out] at hM11 hown10 hnP
      have S3 := RcvIs.setComp (ys := ys) I10 (by rw [HM2.out]; exact hown10) (by rw [HM2.out]; exact hnP) (by rw [HM2.out]; exact hM11) hch11
      have k11 := (k9.of hg10).ch hch11 (fun e => I10.mc.ne_blk (k9.of hg10) e.symm)
      have S04 := (S03.trans (Stp.grew S03.is hg10)).trans S3
      have hb11 : base ≤ w11.heap.size := by have := hg10.size; have := hch11.size; omega
      clear S03 S3 I10 hM11 hch11 hown9 hown10 hnP HnP k9 mc3 c1 c2 hwt hg10 hb9
      try simp only [Act.put, List.setIfInBounds_toArray, List.set_cons_zero, List.set_cons_succ]
      obtain ⟨gm, hgm⟩ : ∃ gm, L.am = some ⟨gm, 0, none⟩ := by
        have h1 := H0.out.miss
        unfold RcL.mv at h1
        rcases h1.2 with ⟨_, h⟩ | ⟨gm, _, _, h, _⟩
        · omega
        · injection h with h; exact ⟨gm, h⟩
      obtain ⟨he1, he2⟩ := del_erase r.miss (sm, (m : Int)) HMem.out
      have hmown := S04.is.miss
      have hmown2 : w11.ownsRow base 53 2 (.slice (some ⟨gm, 0, none⟩) r.miss.length L.cm) r.miss.length (idsC r.miss) := by
        have h1 := hmown
        unfold RcL.mv at h1
        simp only [hgm] at h1
        exact h1
      have HDel := delete_id gm (r.miss.erase (sm, (m : Int))).length L.cm base n r.miss w11 (by rw [he2]; exact hmown2) (by omega)
      rw [he2, HN.out, he1] at HDel
      have hn2 := HN.out
      have b4 : w11.cell? ⟨g, 4, none⟩ = some (.slice (some ⟨gm, 0, none⟩) r.miss.length L.cm) := by
        have h1 := S04.is.cells.2.2.2.2.1
        simp only [hgm] at h1
        exact h1
      rw [← hn2] at HDel
      have hwn : IntKind.i64.wrap ((n : Int) + 1) = (n : Int) + 1 := Go.IntWalk.i64_in _ (by omega)
      have hbl11 := S04.is.blk
      have HMs := Lib.hid he2
      have HGm := Lib.hid hgm
      clear he1 he2 hn2 hmown hgm
      have S4 := fun w12 h1 h2 => RcvIs.setMiss (w1 := w12) (ms := r.miss.erase (sm, (m : Int))) S04.is HGm.out (by show 0 < r.miss.length; omega) h1 h2
      have HS4 := Lib.hid S4
      have hgg : gm ≠ g := fun h => own_blk_ne hmown2 hbl11 (by decide) (congrArg some h)
      have hgk : gm ≠ gp := fun h => own_blk_ne hmown2 k11 (by decide) (congrArg some h)
      have hgpg : gp ≠ g := Blk.ne_ k11 hbl11 (by decide)
      generalize hes : (r.miss.erase (sm, (m : Int))).length = el at *
      have HEs := Lib.hid hes
      clear S4 hes hmown2
      go_wp2_with fail
      refine HDel.mono ?_
      rintro e w12 ⟨rfl, hown12, hch12⟩
      have S4 := HS4.out w12 hown12 hch12
      have S05 := S04.trans S4
      have hbl12 := hbl11.ch hch12 (fun h => hgg h.symm)
      have y4 := hbl12.frozen 4
      have b4' := (hbl12.cell 4).trans (show _ = some _ from rfl)
      have k14 := (k11.ch hch12 (fun h => hgk h.symm)).far (p := ⟨g, 4, none⟩) hgpg (.slice (some ⟨gm, 0, none⟩) el L.cm)
      have hb14 : base ≤ (w12.setCell ⟨g, 4, none⟩ (.slice (some ⟨gm, 0, none⟩) el L.cm)).heap.size := by have := hch12.size; simp; omega
      clear HDel hown12 hch12 S4 HS4 hbl11 hbl12 k11 S04 b4 hb11
      go_upto_region 14 with (fail)
      generalize w12.setCell ⟨g, 4, none⟩ (.slice (some ⟨gm, 0, none⟩) el L.cm) = w14 at *
      have b5 : w14.cell? ⟨g, 5, none⟩ = some (.slice L.ar r.recv.length L.cr) := S05.is.cells.2.2.2.2.2
      have hrv : w14.ownsRow base 53 2 (.slice L.ar r.recv.length L.cr) r.recv.length (idsC r.recv) := S05.is.recv
      have hb5 := S05.is.blk
      have c1 := (k14.cell 1).trans (show _ = some (.int .u64 sm) from rfl)
      have c2 := (k14.cell 2).trans (show _ = some (.int .i64 (m : Nat)) from rfl)
      have hnb := own_blk_ne hrv hb5 (by decide)
      have hnk := own_blk_ne hrv k14 (by decide)
      clear y4 b4'
      refine wp_region_cls (Ch (fun i => (Value.slice L.ar r.recv.length L.cr).ownBlock = some i) w14) 9 (by kernel_rfl) ?_
      have hc0 := (Ch.refl (fun i => (Value.slice L.ar r.recv.length L.cr).ownBlock = some i) w14).drew
      refine AllC.head 0 7 (fuel := 5) (by first | exact fun h k => Grew.trans h k | exact fun h k => cls_grew h k) (hc0) (by rfl) (by kernel_rfl) ?_
      simp only [List.take_succ_cons, List.take_zero, List.drop_succ_cons, List.drop_zero]
      repeat (first
        | (refine HeadC.val (by rfl) ?_
           apply Exists.intro
           refine ⟨fun w' hw' => ?_, ?_⟩
           · (have hf_0 := hw'.cell b5 hnb; have hf_1 := hw'.cell c1 hnk; have hf_2 := hw'.cell c2 hnk; (go_simp) <;> (try go_ints) <;> with_reducible rfl)
           try simp only [Act.put, List.setIfInBounds_toArray, List.set_cons_zero, List.set_cons_succ])
        | (refine HeadC.shut (by rfl) ?_
           try simp only [Act.put, List.setIfInBounds_toArray, List.set_cons_zero, List.set_cons_succ]))
      refine HeadC.nil ?_
      refine AllC.one 7 (by kernel_rfl) rfl ?_
      intro wg hg K hK
      go_simp
      have hg0 := (grew_drew w14).trans hg
      have hga := grew_alloc wg (.cells #[.int .u64 sm, .int .i64 (m : Nat)] 53)
      have hgA : Grew w14 (wg.alloc (.cells #[.int .u64 sm, .int .i64 (m : Nat)] 53)) := hg0.trans hga
      have hown7 := own_below hrv hgA
      have hrow7 := Blk.row (Blk.new wg 53 #[.int .u64 sm, .int .i64 (m : Nat)])
      refine hK.out _ _ (Ch.of_below hgA) ?_
      clear hK K hg hc0 hga hg0
      try simp only [Act.put, List.setIfInBounds_toArray, List.set_cons_zero, List.set_cons_succ]
      have hsz7 := hgA.size
      generalize wg.alloc (.cells #[.int .u64 sm, .int .i64 (m : Nat)] 53) = w15 at *
      generalize wg.heap.size = g7 at *
      clear wg
      refine AllC.one 8 (by kernel_rfl) rfl ?_
      intro wg hg K hK
      have hgA8 := hgA.trans hg
      have hown8 := own_below hown7 hg
      have hrow8 := hrow7.up hg (Nat.le_refl _)
      refine step_append_row rfl (.tmp 109) (.tmp 112) rfl base elem_id (by rfl) hown8 _ (by rfl) (by rfl) hrow8 (by simp [Value.oneCell']) (by unfold maxLen; omega) (by omega) (by have := hgA8.size; omega) ?_
      intro A16 c16 w16 hown16 hg16 hor16
      refine hK.out _ _ ((Ch.of_below hgA8).trans (Ch.of_own hg16)) ?_
      clear hK K hrow8 hown8 hrow7 hown7
      try simp only [Act.put, List.setIfInBounds_toArray, List.set_cons_zero, List.set_cons_succ]
      refine AllC.tail 9 (by rfl) (by kernel_rfl) ?_
      intro wt hwt
      simp only [List.drop_succ_cons, List.drop_zero]
      have S5 := RcvIs.setRecv S05.is (x := (sm, (m : Int))) hgA8 (own_below hown16 hwt) ((Ch.of_own hg16).next hwt) hor16
      have S06 := S05.trans S5
      have hbw := (hb5.ch ((Ch.of_below hgA8).trans (Ch.of_own hg16)) hnb).of hwt
      have y5 := hbw.frozen 5
      have b5' := (hbw.cell 5).trans (show _ = some _ from rfl)
      have HS := Lib.hid S06
      clear S05 S5 S06 hbw hg16 hown16 hor16 hwt hgA hgA8 hg hb5 b5 hrv k14 c1 c2
      go_wp2_with fail
      go_ret
      exact ⟨_, by rw [HE.out]; rfl, by rw [HE.out]; exact HS.out.more (by omega)⟩
end
end

/- Same29:
  stockyardref29.Same of equal lists of chunks.
-/
section
set_option linter.unusedVariables false
set_option linter.unusedSimpArgs false
set_option linter.unnecessarySimpa false
open Go.RowKit
attribute [local go_sem ↓] Go.wp_at_zero Go.wp_at_succ

set_option maxHeartbeats 1000000 in
theorem sameIDs_eq (A A2 : Option Addr) (cap cap2 B : Nat) (l : List IdZ) (w : World) (hr : Row w B A (idsC l)) (hs : Row w B A2 (idsC l)) (hm : l.length ≤ 9223372036854775807) :
    Calls Try.prog 26 #[.slice A l.length cap, .slice A2 l.length cap2] w fun e w' => e = .returned (.bool true) ∧ Grew w w' := by
  go_enter Try.func26, Try.ntmps26
  go_wp2_with fail
  go_loopw [5] (fun i wr => ∃ k : Nat, k ≤ l.length ∧ i = .int .i64 k ∧ Drawn w wr) (fun i _ => l.length - (intOf i).toNat)
  case atStart => exact ⟨0, Nat.zero_le _, rfl, Drawn.refl _⟩
  case round =>
    obtain ⟨k, hk, rfl, hd⟩ := hrel
    by_cases hlt : k < l.length
    · obtain ⟨ad, rfl, _, d0, d1⟩ := ids_at (hr.keep (w' := wr) fun p _ => hd.cell p) hlt
      obtain ⟨ad2, rfl, _, f0, f1⟩ := ids_at (hs.keep (w' := wr) fun p _ => hd.cell p) hlt
      generalize l[k] = x at *
      obtain ⟨x1, x2⟩ := x
      simp only at d0 d1 f0 f1
      go_wp2_with fail
      go_quiet (fail)
      go_wp2
      go_roundw
      case rel => exact ⟨k + 1, by omega, by go_num, hd.drewN _⟩
      case measure => simp [intOf]; omega
    · go_wp2_with fail
      go_ret
      exact ⟨rfl, hd.below _⟩
def chZ (c : ChZ) : IdZ × List Int := (c.id, c.p.zs)
set_option maxRecDepth 100000 in
set_option maxHeartbeats 2000000 in
theorem same29_any (A A2 : Option Addr) (cap cap2 : Nat) (l m : List ChZ) (w : World) (hr : Row w w.heap.size A (chsC l)) (hs : Row w w.heap.size A2 (chsC m)) (hp : LieC w w.heap.size l) (hq : LieC w w.heap.size m) (hm : l.length ≤ 9223372036854775807) (he : l.map chZ = m.map chZ) :
    Calls Try.prog 67 #[.slice A l.length cap, .slice A2 m.length cap2] w fun e w' => e = .returned (.bool true) ∧ Grew w w' := by
  have hl : l.length = m.length := by simpa using congrArg List.length he
  have HE := Lib.hid (fun (k : Nat) (h1 : k < l.length) (h2 : k < m.length) => (show chZ l[k] = chZ m[k] from by
    have := congrArg (fun x => x[k]?) he
    simp only [List.getElem?_map, List.getElem?_eq_getElem h1, List.getElem?_eq_getElem h2, Option.map_some, Option.some.injEq] at this
    exact this))
  have Hl := Lib.hid hl
  have Hp := Lib.hid hp
  have Hq := Lib.hid hq
  rw [← hl]
  clear he hl hp hq
  go_enter Try.func67, Try.ntmps67
  go_wp2_with fail
  go_loopw [5] (fun i wr => (∃ k : Nat, k ≤ l.length ∧ i = .int .i64 k) ∧ Grew w wr) (fun i _ => l.length - (intOf i).toNat)
  case atStart => exact ⟨⟨0, Nat.zero_le _, rfl⟩, Grew.refl _⟩
  case round =>
    obtain ⟨⟨k, hk, rfl⟩, hd⟩ := hrel
    by_cases hlt : k < l.length
    · have hlt2 : k < m.length := by rw [← Hl.out]; exact hlt
      obtain ⟨ad, rfl, hb, d0, d1, d2⟩ := chs_at (hr.up hd (Nat.le_refl _)) hlt
      obtain ⟨ad2, rfl, hb2, e0, e1, e2⟩ := chs_at (hs.up hd (Nat.le_refl _)) hlt2
      have r1 := (Hp.out l[k] (List.getElem_mem hlt)).up hd (Nat.le_refl _)
      have r2 := (Hq.out m[k] (List.getElem_mem hlt2)).up hd (Nat.le_refl _)
      have hz := HE.out k hlt hlt2
      generalize l[k] = x at *
      generalize m[k] = y at *
      obtain ⟨⟨x1, x2⟩, ⟨xA, xc, xz⟩⟩ := x
      obtain ⟨⟨y1, y2⟩, ⟨yA, yc, yz⟩⟩ := y
      simp only [chZ, Prod.mk.injEq] at hz
      obtain ⟨⟨rfl, rfl⟩, rfl⟩ := hz
      simp only at d0 d1 d2 e0 e1 e2 r1 r2
      have hwr := hd.size
      have hcv1 := fun n => conv_row' (r1.up (grew_drawn (w := wr) (w' := wr.drewN n) ⟨n, rfl⟩) hwr) xc
      have hcv2 := fun n => conv_row' (r2.up (grew_drawn (w := wr) (w' := wr.drewN n) ⟨n, rfl⟩) hwr) yc
      clear hlt2 hb hb2 r1 r2
      go_wp2_with fail
      go_quiet (fail)
      try go_wp2
      go_roundw
      case rel => exact ⟨⟨k + 1, by omega, by go_num⟩, hd.trans (grew_drawn ⟨_, rfl⟩)⟩
      case measure => simp [intOf]; omega
    · go_wp2_with fail
      go_ret
      exact ⟨rfl, hd⟩
end

/- Is37:
  stockyardlaw37.is: a receiver and the reference's receiver say the same.
-/
section
set_option linter.unusedVariables false
set_option linter.unusedSimpArgs false
set_option linter.unnecessarySimpa false
open Go.RowKit
attribute [local go_sem ↓] Go.wp_at_zero Go.wp_at_succ

/-- the bytes of the content, and their ID -/
theorem done_all {r : Rcv} (ok : RcOk r) (hm : r.miss = []) : (r.ids.map (cmpB r)).map idOf = r.ids := by
  apply List.ext_getElem (by simp)
  intro i h1 h2
  simp only [List.getElem_map]
  have hx := List.getElem_mem h2
  rcases ok.all _ hx with h | h
  · rw [hm] at h; cases h
  · cases hc : r.comp r.ids[i] with
    | none => exact absurd hc h
    | some zs => unfold cmpB; rw [hc]; exact (ok.comp _ _ hc).1
theorem done_flat (r : Rcv) : doneT r r.ids = (r.ids.map (cmpB r)).flatten := by unfold doneT; rw [List.flatMap_def]
theorem done_len {r : Rcv} (ok : RcOk r) (hm : r.miss = []) : ((doneT r r.ids).length : Int) = r.n := by
  have h1 := sumN_texts (r.ids.map (cmpB r))
  rw [done_all ok hm] at h1
  obtain ⟨_, _, h2, _⟩ := chkM_zero ok.chk
  rw [done_flat]; omega
theorem done_id {r : Rcv} (ok : RcOk r) (hm : r.miss = []) : idOf (doneT r r.ids) = whS r.ids := by
  have hl := done_len ok hm
  have hn := ok.len.2.1
  rw [done_flat] at hl ⊢
  have h := whS_flat (r.ids.map (cmpB r)) (by omega)
  rw [done_all ok hm] at h
  exact h.symm
section
variable {R : RfR} {r : Rcv}
theorem RefOf.true_ (h : RefOf R r) (ok : RcOk r) : TrueC (R.had ++ R.got) := fun c hc => by
  obtain ⟨h1, _⟩ := h.comp c (List.mem_append.1 hc)
  exact (ok.comp _ _ h1).1.symm
theorem RefOf.okC (h : RefOf R r) (ok : RcOk r) {D : Nat → Prop} {L : RfL} (ha : RfAt D L R) : OkC (R.had ++ R.got) := fun c hc => by
  have hc2 := List.mem_append.1 hc
  obtain ⟨h1, h2⟩ := h.comp c hc2
  obtain ⟨h3, h4, _⟩ := h.clen ok hc2
  exact ⟨ok.wf _ h2, h3, ha.cap c (hc2.imp id .inl), by omega⟩
theorem RefOf.done_ (h : RefOf R r) (ok : RcOk r) (hm : r.miss = []) : rfB R = doneT r r.ids := by
  have hall : ∀ x ∈ r.ids, ∃ c ∈ R.had ++ R.got, c.id = x := fun x hx => by
    rcases ok.all _ hx with h1 | h1
    · rw [hm] at h1; cases h1
    · obtain ⟨c, hc, e⟩ := h.all x hx h1
      exact ⟨c, List.mem_append.2 hc, e⟩
  have hf : ∀ x ∈ r.ids, (fndP (R.had ++ R.got) x).zs = cmpB r x := fun x hx => by
    have h0 : fndE (R.had ++ R.got) x = 0 := fnd_true (h.true_ ok) (hall x hx)
    obtain ⟨c, _, hc, hid, hp, _⟩ := fnd_len h0
    have hci : c.id = x := ((h.true_ ok) c hc).trans hid
    obtain ⟨h1, _⟩ := h.comp c (List.mem_append.1 hc)
    rw [hp]; unfold cmpB; rw [← hci, h1]; rfl
  obtain ⟨_, _, hs, hn⟩ := chkM_zero ok.chk
  have hsl : slE (r.n : Int) r.ids 0 r.n = 0 := by unfold slE; rw [if_pos ok.chk, if_neg (by omega)]
  have he : rangeE (R.had ++ R.got) (r.n : Int) r.ids 0 r.n = 0 := range_ok (h.true_ ok) hsl (fun p hp hlt => hall _ (List.getElem_mem hlt))
  have hl := done_len ok hm
  have hti := done_all ok hm
  have htl : (r.ids.map (cmpB r)).length = r.ids.length := List.length_map ..
  unfold rfB rangeB
  rw [h.n, h.ids, if_pos he, done_flat]
  rw [done_flat] at hl
  obtain ⟨ts, hts⟩ : ∃ ts, ts = r.ids.map (cmpB r) := ⟨_, rfl⟩
  rw [← hts] at hl hti htl ⊢
  have := rgB_sub (l := R.had ++ R.got) (ts := ts) (f := 0) (t := r.n) (fun i hi hp => by
    have e : idOf ts[i] = r.ids[i]'(by omega) := by
      have e := congrArg (fun x => x[i]?) hti
      simp only [List.getElem?_map, List.getElem?_eq_getElem hi, List.getElem?_eq_getElem (show i < r.ids.length by omega), Option.map_some, Option.some.injEq] at e
      exact e
    rw [e, hf _ (List.getElem_mem _)]
    simp only [hts, List.getElem_map]) ts.length (Nat.le_refl _)
  rw [hti, List.take_length, htl, subZ_whole (by omega)] at this
  exact this
theorem RefOf.ask_ (h : RefOf R r) (ok : RcOk r) {most : Int} {m : Nat} (hm : m ≤ R.pre.length) (hd : (m : Int) = most ∨ (most < 0 ∧ m = 0) ∨ (m = R.pre.length ∧ (R.pre.length : Int) ≤ most)) : (askP r (askL r most)).map Pk.z = (rfAsk R m).map Pk.z := by
  have hl : r.miss.length = R.pre.length := by rw [← h.pre, List.length_map]
  have hn : askN r most = m := by unfold askN; omega
  unfold askP askL rfAsk
  rw [hn, ← h.pre, ← List.map_take, List.map_map, List.map_map, List.map_map]
  apply List.map_congr_left
  intro c hc
  have hp := h.pref c (List.mem_of_mem_take hc)
  simp only [Function.comp, Pk.z, PkZ.mk.injEq, true_and, and_true]
  rw [← hp]
theorem RefOf.got_ (h : RefOf R r) : gotZ r = R.got.map ChZ.z := by
  unfold gotZ
  rw [← h.got, List.map_map]
  apply List.map_congr_left
  intro c hc
  obtain ⟨h1, _⟩ := h.comp c (.inr hc)
  show (c.id, cmpB r c.id) = (c.id, c.p.zs)
  unfold cmpB; rw [h1]; rfl
theorem RefOf.mlen (h : RefOf R r) : R.pre.length = r.miss.length := by rw [← h.pre, List.length_map]
end

set_option maxRecDepth 100000 in
set_option maxHeartbeats 4000000 in
theorem is37_any {base g M : Nat} {Lr : RcL} {r : Rcv} (L : RfL) (R : RfR) (w : World) (h : RcvIs w base g M Lr r) (ok : RcOk r) (hin : RecvIn r) (hI : RfIs w L R) (hf : RefOf R r) (hc : OkC (R.had ++ R.got)) :
    Calls Try.prog 34 #[.pointer (some ⟨g, 0, none⟩), rfV L R] w fun e w' => e = .returned (.bool true) ∧ Grew w w' := by
  have hRo := hf.ok ok
  have hlen := ok.len
  obtain ⟨lai, lci, lah, lch, lag, lcg, lap, lcp⟩ := L
  have g0 := grew_alloc w (.cells #[.int .i64 R.n, .slice lai R.ids.length lci, .slice lah R.had.length lch, .slice lag R.got.length lcg, .slice lap R.pre.length lcp] 71)
  have kR := Blk.new w 71 #[.int .i64 R.n, .slice lai R.ids.length lci, .slice lah R.had.length lch, .slice lag R.got.length lcg, .slice lap R.pre.length lcp]
  generalize hw1 : w.alloc (.cells #[.int .i64 R.n, .slice lai R.ids.length lci, .slice lah R.had.length lch, .slice lag R.got.length lcg, .slice lap R.pre.length lcp] 71) = w1 at *
  have HG0 := Lib.hid g0
  have HMi := Lib.hid (fun W (hg : Grew w1 W) => missing37_any W ((h.of g0).of hg) ok)
  have HAk := Lib.hid (fun m W (hg : Grew w1 W) => ask37_any m W ((h.of g0).of hg) ok)
  have HCh := Lib.hid (fun W (hg : Grew w1 W) => chunks37_any W ((h.of g0).of hg) ok hin)
  have HDn := Lib.hid (fun (hm : 0 < r.miss.length) => done37_no w1 (h.of g0) hm)
  have HDy := Lib.hid (fun hm => done37_yes w1 (h.of g0) ok hm)
  have HRm := Lib.hid (fun W (hg : Grew w1 W) => refMissing37_any ⟨lai, lci, lah, lch, lag, lcg, lap, lcp⟩ R W ((hI.up g0).up hg) hRo)
  have HRa := Lib.hid (fun m W (hg : Grew w1 W) => refAsk37_any ⟨lai, lci, lah, lch, lag, lcg, lap, lcp⟩ R m W ((hI.up g0).up hg) hRo)
  have HRd := Lib.hid (fun W (hg : Grew w1 W) => refDone37_any ⟨lai, lci, lah, lch, lag, lcg, lap, lcp⟩ R W ((hI.up g0).up hg) hRo hc)
  have HRg := Lib.hid (fun W (hg : Grew w1 W) => And.intro ((hI.up g0).up hg).rgot ((hI.up g0).up hg).lgot)
  unfold rfV at HRm HRa HRd
  have HF := Lib.hid hf
  have HOk := Lib.hid ok
  have HPm := Lib.hid hf.pre
  have HPl := Lib.hid hf.mlen
  have HKR := Lib.hid kR
  have hml : r.miss.length ≤ 1024 := hlen.2.2.1
  clear h ok hin hI hf hc hRo hlen g0 kR
  unfold rfV
  have r0 := (HKR.out.cell 0).trans (show _ = some (.int .i64 R.n) from rfl)
  have r1 := (HKR.out.cell 1).trans (show _ = some (.slice lai R.ids.length lci) from rfl)
  have r2 := (HKR.out.cell 2).trans (show _ = some (.slice lah R.had.length lch) from rfl)
  have r3 := (HKR.out.cell 3).trans (show _ = some (.slice lag R.got.length lcg) from rfl)
  have r4 := (HKR.out.cell 4).trans (show _ = some (.slice lap R.pre.length lcp) from rfl)
  go_enter Try.func34, Try.ntmps34
  go_wp2_with fail
  clear hw1
  by_cases hm : r.miss = []
  · refine (HDy.out hm).mono ?_
    rintro e w2 ⟨Ad, cd, rfl, hownd, hg2⟩
    have c0 := cell_up hg2 r0
    have c1 := cell_up hg2 r1
    have c2 := cell_up hg2 r2
    have c3 := cell_up hg2 r3
    have c4 := cell_up hg2 r4
    clear r0 r1 r2 r3 r4
    have hpr : R.pre = [] := List.eq_nil_of_length_eq_zero (by rw [HPl.out, hm]; rfl)
    have HD := Lib.hid (HRd.out w2 hg2)
    have HPr := Lib.hid hpr
    have HMm := Lib.hid hm
    clear hpr hm HRd HDy HDn
    go_wp2_with fail
    refine HD.out.mono ?_
    rintro e w3 ⟨hg3, hif⟩
    rw [if_pos HPr.out, HF.out.done_ HOk.out HMm.out] at hif
    obtain ⟨Ae, ce, rfl, howne⟩ := hif
    generalize doneT r r.ids = ds at *
    replace hownd := own_below hownd hg3
    replace c0 := cell_up hg3 c0
    replace c1 := cell_up hg3 c1
    replace c2 := cell_up hg3 c2
    replace c3 := cell_up hg3 c3
    replace c4 := cell_up hg3 c4
    have HG3 := Lib.hid (Grew.trans hg2 hg3)
    have hrd := own_row hownd
    have hre := own_row howne
    clear hg2 hg3 hownd howne HD
    go_upto_region 3 with (fail)
    refine wp_region_g 37 (by kernel_rfl) ?_
    have hgW : Grew w3 w3.drew := grew_drew _
    refine AllC.head 0 1 (fuel := 37) (by first | exact fun h k => Grew.trans h k | exact fun h k => cls_grew h k) (hgW) (by rfl) (by kernel_rfl) ?_
    simp only [List.take_succ_cons, List.take_zero, List.drop_succ_cons, List.drop_zero]
    repeat (first
      | (refine HeadC.val (by rfl) ?_
         apply Exists.intro
         refine ⟨fun w' hw' => ?_, ?_⟩
         · ((go_simp) <;> (try go_ints) <;> with_reducible rfl)
         try simp only [Act.put, List.setIfInBounds_toArray, List.set_cons_zero, List.set_cons_succ])
      | (refine HeadC.shut (by rfl) ?_
         try simp only [Act.put, List.setIfInBounds_toArray, List.set_cons_zero, List.set_cons_succ]))
    refine HeadC.nil ?_
    refine AllC.head 2 1 (fuel := 36) (by first | exact fun h k => Grew.trans h k | exact fun h k => cls_grew h k) (hgW) (by rfl) (by kernel_rfl) ?_
    simp only [List.take_succ_cons, List.take_zero, List.drop_succ_cons, List.drop_zero]
    repeat (first
      | (refine HeadC.val (by rfl) ?_
         apply Exists.intro
         refine ⟨fun w' hw' => ?_, ?_⟩
         · (have hf_0 := cell_up hw' c0; have hf_1 := cell_up hw' c1; have hf_2 := cell_up hw' c2; have hf_3 := cell_up hw' c3; have hf_4 := cell_up hw' c4; (go_simp) <;> (try go_ints) <;> with_reducible rfl)
         try simp only [Act.put, List.setIfInBounds_toArray, List.set_cons_zero, List.set_cons_succ])
      | (refine HeadC.shut (by rfl) ?_
         try simp only [Act.put, List.setIfInBounds_toArray, List.set_cons_zero, List.set_cons_succ]))
    refine HeadC.nil ?_
    refine AllC.one 1 (by kernel_rfl) rfl ?_
    intro wg hg K hK
    go_simp
    replace hgW := Grew.trans hgW hg
    refine (HMi.out wg (Grew.trans HG3.out hgW)).mono ?_
    rintro e w4 ⟨A4, c4', rfl, hown4, hg4⟩
    replace hgW := Grew.trans hgW hg4
    refine hK.out _ _ hgW ?_
    clear hK K hg hg4
    try simp only [Act.put, List.setIfInBounds_toArray, List.set_cons_zero, List.set_cons_succ]
    refine AllC.one 3 (by kernel_rfl) rfl ?_
    intro wg hg K hK
    go_simp
    replace hgW := Grew.trans hgW hg
    replace hown4 := own_below hown4 hg
    have HM5 := HRm.out wg (Grew.trans HG3.out hgW)
    refine HM5.mono ?_
    clear HM5
    rintro e w5 ⟨A5, c5', rfl, hown5, hg5⟩
    rw [HPm.out] at hown5
    replace hgW := Grew.trans hgW hg5
    replace hown4 := own_below hown4 hg5
    refine hK.out _ _ hgW ?_
    clear hK K hg hg5
    try simp only [Act.put, List.setIfInBounds_toArray, List.set_cons_zero, List.set_cons_succ]
    refine AllC.one 4 (by kernel_rfl) rfl ?_
    intro wg hg K hK
    go_simp
    replace hgW := Grew.trans hgW hg
    have HS6 := sameIDs_eq A4 A5 c4' c5' wg.heap.size r.miss wg (own_row (own_below hown4 hg)) (own_row (own_below hown5 hg)) (by omega)
    rw [HPl.out]
    refine HS6.mono ?_
    clear HS6
    rintro e w6 ⟨rfl, hg6⟩
    replace hgW := Grew.trans hgW hg6
    refine hK.out _ _ hgW ?_
    clear hK K hg hg6 hown4 hown5
    try simp only [Act.put, List.setIfInBounds_toArray, List.set_cons_zero, List.set_cons_succ]
    refine AllC.head 5 5 (fuel := 28) (by first | exact fun h k => Grew.trans h k | exact fun h k => cls_grew h k) (hgW) (by rfl) (by kernel_rfl) ?_
    simp only [List.take_succ_cons, List.take_zero, List.drop_succ_cons, List.drop_zero]
    repeat (first
      | (refine HeadC.val (by rfl) ?_
         apply Exists.intro
         refine ⟨fun w' hw' => ?_, ?_⟩
         · (have hf_0 := cell_up hw' c4; (go_simp) <;> (try go_ints) <;> with_reducible rfl)
         try simp only [Act.put, List.setIfInBounds_toArray, List.set_cons_zero, List.set_cons_succ])
      | (refine HeadC.shut (by rfl) ?_
         try simp only [Act.put, List.setIfInBounds_toArray, List.set_cons_zero, List.set_cons_succ]))
    refine HeadC.nil ?_
    refine AllC.head 11 4 (fuel := 24) (by first | exact fun h k => Grew.trans h k | exact fun h k => cls_grew h k) (hgW) (by rfl) (by kernel_rfl) ?_
    simp only [List.take_succ_cons, List.take_zero, List.drop_succ_cons, List.drop_zero]
    repeat (first
      | (refine HeadC.val (by rfl) ?_
         apply Exists.intro
         refine ⟨fun w' hw' => ?_, ?_⟩
         · (have hf_0 := cell_up hw' c0; have hf_1 := cell_up hw' c1; have hf_2 := cell_up hw' c2; have hf_3 := cell_up hw' c3; have hf_4 := cell_up hw' c4; (go_simp) <;> (try go_ints) <;> with_reducible rfl)
         try simp only [Act.put, List.setIfInBounds_toArray, List.set_cons_zero, List.set_cons_succ])
      | (refine HeadC.shut (by rfl) ?_
         try simp only [Act.put, List.setIfInBounds_toArray, List.set_cons_zero, List.set_cons_succ]))
    refine HeadC.nil ?_
    refine AllC.one 10 (by kernel_rfl) rfl ?_
    intro wg hg K hK
    go_simp
    replace hgW := Grew.trans hgW hg
    have HA7 := HAk.out (R.pre.length : Int) wg (Grew.trans HG3.out hgW)
    refine HA7.mono ?_
    clear HA7
    rintro e w7 ⟨A7, c7', rfl, hown7, hg7⟩
    replace hgW := Grew.trans hgW hg7
    refine hK.out _ _ hgW ?_
    clear hK K hg hg7
    try simp only [Act.put, List.setIfInBounds_toArray, List.set_cons_zero, List.set_cons_succ]
    refine AllC.one 15 (by kernel_rfl) rfl ?_
    intro wg hg K hK
    go_simp
    replace hgW := Grew.trans hgW hg
    replace hown7 := own_below hown7 hg
    have HA8 := HRa.out (R.pre.length : Int) wg (Grew.trans HG3.out hgW)
    refine HA8.mono ?_
    clear HA8
    rintro e w8 ⟨m, A8, c8', rfl, hm8, hd8, hown8, hg8⟩
    replace hgW := Grew.trans hgW hg8
    replace hown7 := own_below hown7 hg8
    refine hK.out _ _ hgW ?_
    clear hK K hg hg8
    try simp only [Act.put, List.setIfInBounds_toArray, List.set_cons_zero, List.set_cons_succ]
    refine AllC.one 16 (by kernel_rfl) rfl ?_
    intro wg hg K hK
    go_simp
    replace hgW := Grew.trans hgW hg
    have HS9 := same37_any A7 A8 c7' c8' (askP r (askL r (R.pre.length : Int))) (rfAsk R m) wg (own_row (own_below hown7 hg)) (own_row (own_below hown8 hg)) (fun x hx => by unfold askP at hx; obtain ⟨y, _, rfl⟩ := List.mem_map.1 hx; exact Row.nil) (fun x hx => by unfold rfAsk at hx; obtain ⟨y, _, rfl⟩ := List.mem_map.1 hx; exact Row.nil) (by rw [askP_length, askL_length]; unfold askN; omega) (HF.out.ask_ HOk.out hm8 hd8)
    rw [rfAsk_length R m hm8] at HS9
    refine HS9.mono ?_
    clear HS9
    rintro e w9 ⟨rfl, hg9⟩
    replace hgW := Grew.trans hgW hg9
    refine hK.out _ _ hgW ?_
    clear hK K hg hg9 hown7 hown8 hm8 hd8
    try simp only [Act.put, List.setIfInBounds_toArray, List.set_cons_zero, List.set_cons_succ]
    refine AllC.head 17 3 (fuel := 18) (by first | exact fun h k => Grew.trans h k | exact fun h k => cls_grew h k) (hgW) (by rfl) (by kernel_rfl) ?_
    simp only [List.take_succ_cons, List.take_zero, List.drop_succ_cons, List.drop_zero]
    repeat (first
      | (refine HeadC.val (by rfl) ?_
         apply Exists.intro
         refine ⟨fun w' hw' => ?_, ?_⟩
         · ((go_simp) <;> (try go_ints) <;> with_reducible rfl)
         try simp only [Act.put, List.setIfInBounds_toArray, List.set_cons_zero, List.set_cons_succ])
      | (refine HeadC.shut (by rfl) ?_
         try simp only [Act.put, List.setIfInBounds_toArray, List.set_cons_zero, List.set_cons_succ]))
    refine HeadC.nil ?_
    refine AllC.head 21 2 (fuel := 16) (by first | exact fun h k => Grew.trans h k | exact fun h k => cls_grew h k) (hgW) (by rfl) (by kernel_rfl) ?_
    simp only [List.take_succ_cons, List.take_zero, List.drop_succ_cons, List.drop_zero]
    repeat (first
      | (refine HeadC.val (by rfl) ?_
         apply Exists.intro
         refine ⟨fun w' hw' => ?_, ?_⟩
         · (have hf_0 := cell_up hw' c3; (go_simp) <;> (try go_ints) <;> with_reducible rfl)
         try simp only [Act.put, List.setIfInBounds_toArray, List.set_cons_zero, List.set_cons_succ])
      | (refine HeadC.shut (by rfl) ?_
         try simp only [Act.put, List.setIfInBounds_toArray, List.set_cons_zero, List.set_cons_succ]))
    refine HeadC.nil ?_
    refine AllC.one 20 (by kernel_rfl) rfl ?_
    intro wg hg K hK
    go_simp
    replace hgW := Grew.trans hgW hg
    refine (HCh.out wg (Grew.trans HG3.out hgW)).mono ?_
    rintro e w10 ⟨A10, c10', qs, rfl, hqz, hown10, hin10, hg10⟩
    have hql : qs.length ≤ 1024 := by
      have h1 := congrArg List.length hqz
      have h2 := HOk.out.len.2.2.2
      unfold gotZ at h1
      rw [List.length_map, List.length_map] at h1
      omega
    replace hgW := Grew.trans hgW hg10
    refine hK.out _ _ hgW ?_
    clear hK K hg hg10
    try simp only [Act.put, List.setIfInBounds_toArray, List.set_cons_zero, List.set_cons_succ]
    refine AllC.one 23 (by kernel_rfl) rfl ?_
    intro wg hg K hK
    go_simp
    replace hgW := Grew.trans hgW hg
    refine (same29_any A10 lag c10' lcg qs R.got wg (own_row (own_below hown10 hg)) (HRg.out wg (Grew.trans HG3.out hgW)).1 (fun c hc => ((hin10.up hg) c hc).1) (HRg.out wg (Grew.trans HG3.out hgW)).2 (by omega) (hqz.trans HF.out.got_)).mono ?_
    rintro e w11 ⟨rfl, hg11⟩
    replace hgW := Grew.trans hgW hg11
    refine hK.out _ _ hgW ?_
    clear hK K hg hg11 hown10 hin10 hqz hql
    try simp only [Act.put, List.setIfInBounds_toArray, List.set_cons_zero, List.set_cons_succ]
    refine AllC.head 24 13 (fuel := 1) (by first | exact fun h k => Grew.trans h k | exact fun h k => cls_grew h k) (hgW) (by rfl) (by kernel_rfl) ?_
    simp only [List.take_succ_cons, List.take_zero, List.drop_succ_cons, List.drop_zero]
    repeat (first
      | (refine HeadC.val (by rfl) ?_
         apply Exists.intro
         refine ⟨fun w' hw' => ?_, ?_⟩
         · (have hf_0 := conv_row' (hrd.up hw' (Nat.le_refl _)) cd; have hf_1 := conv_row' (hre.up hw' (Nat.le_refl _)) ce; (go_simp) <;> (try go_ints) <;> with_reducible rfl)
         try simp only [Act.put, List.setIfInBounds_toArray, List.set_cons_zero, List.set_cons_succ])
      | (refine HeadC.shut (by rfl) ?_
         try simp only [Act.put, List.setIfInBounds_toArray, List.set_cons_zero, List.set_cons_succ]))
    refine HeadC.nil ?_
    refine AllC.tail 37 (by rfl) (by kernel_rfl) ?_
    intro wt hwt
    simp only [List.drop_succ_cons, List.drop_zero]
    have HGE := Lib.hid (Grew.trans HG0.out (Grew.trans HG3.out (Grew.trans hgW hwt)))
    clear hgW hwt
    go_wp2_with fail
    go_ret
    exact ⟨rfl, HGE.out⟩
  · refine (HDn.out (List.length_pos_iff.2 hm)).mono ?_
    rintro e w2 ⟨rfl, hg2⟩
    have c0 := cell_up hg2 r0
    have c1 := cell_up hg2 r1
    have c2 := cell_up hg2 r2
    have c3 := cell_up hg2 r3
    have c4 := cell_up hg2 r4
    clear r0 r1 r2 r3 r4
    have hpr : ¬ R.pre = [] := fun e => hm (List.eq_nil_of_length_eq_zero (by rw [← HPl.out, e]; rfl))
    have HD := Lib.hid (HRd.out w2 hg2)
    have HPr := Lib.hid hpr
    clear hpr hm HRd HDy HDn
    go_wp2_with fail
    refine HD.out.mono ?_
    rintro e w3 ⟨hg3, hif⟩
    rw [if_neg HPr.out] at hif
    subst hif
    replace c0 := cell_up hg3 c0
    replace c1 := cell_up hg3 c1
    replace c2 := cell_up hg3 c2
    replace c3 := cell_up hg3 c3
    replace c4 := cell_up hg3 c4
    have HG3 := Lib.hid (Grew.trans hg2 hg3)
    clear hg2 hg3 HD
    go_upto_region 3 with (fail)
    refine wp_region_g 37 (by kernel_rfl) ?_
    have hgW : Grew w3 w3.drew := grew_drew _
    refine AllC.head 0 1 (fuel := 37) (by first | exact fun h k => Grew.trans h k | exact fun h k => cls_grew h k) (hgW) (by rfl) (by kernel_rfl) ?_
    simp only [List.take_succ_cons, List.take_zero, List.drop_succ_cons, List.drop_zero]
    repeat (first
      | (refine HeadC.val (by rfl) ?_
         apply Exists.intro
         refine ⟨fun w' hw' => ?_, ?_⟩
         · ((go_simp) <;> (try go_ints) <;> with_reducible rfl)
         try simp only [Act.put, List.setIfInBounds_toArray, List.set_cons_zero, List.set_cons_succ])
      | (refine HeadC.shut (by rfl) ?_
         try simp only [Act.put, List.setIfInBounds_toArray, List.set_cons_zero, List.set_cons_succ]))
    refine HeadC.nil ?_
    refine AllC.head 2 1 (fuel := 36) (by first | exact fun h k => Grew.trans h k | exact fun h k => cls_grew h k) (hgW) (by rfl) (by kernel_rfl) ?_
    simp only [List.take_succ_cons, List.take_zero, List.drop_succ_cons, List.drop_zero]
    repeat (first
      | (refine HeadC.val (by rfl) ?_
         apply Exists.intro
         refine ⟨fun w' hw' => ?_, ?_⟩
         · (have hf_0 := cell_up hw' c0; have hf_1 := cell_up hw' c1; have hf_2 := cell_up hw' c2; have hf_3 := cell_up hw' c3; have hf_4 := cell_up hw' c4; (go_simp) <;> (try go_ints) <;> with_reducible rfl)
         try simp only [Act.put, List.setIfInBounds_toArray, List.set_cons_zero, List.set_cons_succ])
      | (refine HeadC.shut (by rfl) ?_
         try simp only [Act.put, List.setIfInBounds_toArray, List.set_cons_zero, List.set_cons_succ]))
    refine HeadC.nil ?_
    refine AllC.one 1 (by kernel_rfl) rfl ?_
    intro wg hg K hK
    go_simp
    replace hgW := Grew.trans hgW hg
    refine (HMi.out wg (Grew.trans HG3.out hgW)).mono ?_
    rintro e w4 ⟨A4, c4', rfl, hown4, hg4⟩
    replace hgW := Grew.trans hgW hg4
    refine hK.out _ _ hgW ?_
    clear hK K hg hg4
    try simp only [Act.put, List.setIfInBounds_toArray, List.set_cons_zero, List.set_cons_succ]
    refine AllC.one 3 (by kernel_rfl) rfl ?_
    intro wg hg K hK
    go_simp
    replace hgW := Grew.trans hgW hg
    replace hown4 := own_below hown4 hg
    have HM5 := HRm.out wg (Grew.trans HG3.out hgW)
    refine HM5.mono ?_
    clear HM5
    rintro e w5 ⟨A5, c5', rfl, hown5, hg5⟩
    rw [HPm.out] at hown5
    replace hgW := Grew.trans hgW hg5
    replace hown4 := own_below hown4 hg5
    refine hK.out _ _ hgW ?_
    clear hK K hg hg5
    try simp only [Act.put, List.setIfInBounds_toArray, List.set_cons_zero, List.set_cons_succ]
    refine AllC.one 4 (by kernel_rfl) rfl ?_
    intro wg hg K hK
    go_simp
    replace hgW := Grew.trans hgW hg
    have HS6 := sameIDs_eq A4 A5 c4' c5' wg.heap.size r.miss wg (own_row (own_below hown4 hg)) (own_row (own_below hown5 hg)) (by omega)
    rw [HPl.out]
    refine HS6.mono ?_
    clear HS6
    rintro e w6 ⟨rfl, hg6⟩
    replace hgW := Grew.trans hgW hg6
    refine hK.out _ _ hgW ?_
    clear hK K hg hg6 hown4 hown5
    try simp only [Act.put, List.setIfInBounds_toArray, List.set_cons_zero, List.set_cons_succ]
    refine AllC.head 5 5 (fuel := 28) (by first | exact fun h k => Grew.trans h k | exact fun h k => cls_grew h k) (hgW) (by rfl) (by kernel_rfl) ?_
    simp only [List.take_succ_cons, List.take_zero, List.drop_succ_cons, List.drop_zero]
    repeat (first
      | (refine HeadC.val (by rfl) ?_
         apply Exists.intro
         refine ⟨fun w' hw' => ?_, ?_⟩
         · (have hf_0 := cell_up hw' c4; (go_simp) <;> (try go_ints) <;> with_reducible rfl)
         try simp only [Act.put, List.setIfInBounds_toArray, List.set_cons_zero, List.set_cons_succ])
      | (refine HeadC.shut (by rfl) ?_
         try simp only [Act.put, List.setIfInBounds_toArray, List.set_cons_zero, List.set_cons_succ]))
    refine HeadC.nil ?_
    refine AllC.head 11 4 (fuel := 24) (by first | exact fun h k => Grew.trans h k | exact fun h k => cls_grew h k) (hgW) (by rfl) (by kernel_rfl) ?_
    simp only [List.take_succ_cons, List.take_zero, List.drop_succ_cons, List.drop_zero]
    repeat (first
      | (refine HeadC.val (by rfl) ?_
         apply Exists.intro
         refine ⟨fun w' hw' => ?_, ?_⟩
         · (have hf_0 := cell_up hw' c0; have hf_1 := cell_up hw' c1; have hf_2 := cell_up hw' c2; have hf_3 := cell_up hw' c3; have hf_4 := cell_up hw' c4; (go_simp) <;> (try go_ints) <;> with_reducible rfl)
         try simp only [Act.put, List.setIfInBounds_toArray, List.set_cons_zero, List.set_cons_succ])
      | (refine HeadC.shut (by rfl) ?_
         try simp only [Act.put, List.setIfInBounds_toArray, List.set_cons_zero, List.set_cons_succ]))
    refine HeadC.nil ?_
    refine AllC.one 10 (by kernel_rfl) rfl ?_
    intro wg hg K hK
    go_simp
    replace hgW := Grew.trans hgW hg
    have HA7 := HAk.out (R.pre.length : Int) wg (Grew.trans HG3.out hgW)
    refine HA7.mono ?_
    clear HA7
    rintro e w7 ⟨A7, c7', rfl, hown7, hg7⟩
    replace hgW := Grew.trans hgW hg7
    refine hK.out _ _ hgW ?_
    clear hK K hg hg7
    try simp only [Act.put, List.setIfInBounds_toArray, List.set_cons_zero, List.set_cons_succ]
    refine AllC.one 15 (by kernel_rfl) rfl ?_
    intro wg hg K hK
    go_simp
    replace hgW := Grew.trans hgW hg
    replace hown7 := own_below hown7 hg
    have HA8 := HRa.out (R.pre.length : Int) wg (Grew.trans HG3.out hgW)
    refine HA8.mono ?_
    clear HA8
    rintro e w8 ⟨m, A8, c8', rfl, hm8, hd8, hown8, hg8⟩
    replace hgW := Grew.trans hgW hg8
    replace hown7 := own_below hown7 hg8
    refine hK.out _ _ hgW ?_
    clear hK K hg hg8
    try simp only [Act.put, List.setIfInBounds_toArray, List.set_cons_zero, List.set_cons_succ]
    refine AllC.one 16 (by kernel_rfl) rfl ?_
    intro wg hg K hK
    go_simp
    replace hgW := Grew.trans hgW hg
    have HS9 := same37_any A7 A8 c7' c8' (askP r (askL r (R.pre.length : Int))) (rfAsk R m) wg (own_row (own_below hown7 hg)) (own_row (own_below hown8 hg)) (fun x hx => by unfold askP at hx; obtain ⟨y, _, rfl⟩ := List.mem_map.1 hx; exact Row.nil) (fun x hx => by unfold rfAsk at hx; obtain ⟨y, _, rfl⟩ := List.mem_map.1 hx; exact Row.nil) (by rw [askP_length, askL_length]; unfold askN; omega) (HF.out.ask_ HOk.out hm8 hd8)
    rw [rfAsk_length R m hm8] at HS9
    refine HS9.mono ?_
    clear HS9
    rintro e w9 ⟨rfl, hg9⟩
    replace hgW := Grew.trans hgW hg9
    refine hK.out _ _ hgW ?_
    clear hK K hg hg9 hown7 hown8 hm8 hd8
    try simp only [Act.put, List.setIfInBounds_toArray, List.set_cons_zero, List.set_cons_succ]
    refine AllC.head 17 3 (fuel := 18) (by first | exact fun h k => Grew.trans h k | exact fun h k => cls_grew h k) (hgW) (by rfl) (by kernel_rfl) ?_
    simp only [List.take_succ_cons, List.take_zero, List.drop_succ_cons, List.drop_zero]
    repeat (first
      | (refine HeadC.val (by rfl) ?_
         apply Exists.intro
         refine ⟨fun w' hw' => ?_, ?_⟩
         · ((go_simp) <;> (try go_ints) <;> with_reducible rfl)
         try simp only [Act.put, List.setIfInBounds_toArray, List.set_cons_zero, List.set_cons_succ])
      | (refine HeadC.shut (by rfl) ?_
         try simp only [Act.put, List.setIfInBounds_toArray, List.set_cons_zero, List.set_cons_succ]))
    refine HeadC.nil ?_
    refine AllC.head 21 2 (fuel := 16) (by first | exact fun h k => Grew.trans h k | exact fun h k => cls_grew h k) (hgW) (by rfl) (by kernel_rfl) ?_
    simp only [List.take_succ_cons, List.take_zero, List.drop_succ_cons, List.drop_zero]
    repeat (first
      | (refine HeadC.val (by rfl) ?_
         apply Exists.intro
         refine ⟨fun w' hw' => ?_, ?_⟩
         · (have hf_0 := cell_up hw' c3; (go_simp) <;> (try go_ints) <;> with_reducible rfl)
         try simp only [Act.put, List.setIfInBounds_toArray, List.set_cons_zero, List.set_cons_succ])
      | (refine HeadC.shut (by rfl) ?_
         try simp only [Act.put, List.setIfInBounds_toArray, List.set_cons_zero, List.set_cons_succ]))
    refine HeadC.nil ?_
    refine AllC.one 20 (by kernel_rfl) rfl ?_
    intro wg hg K hK
    go_simp
    replace hgW := Grew.trans hgW hg
    refine (HCh.out wg (Grew.trans HG3.out hgW)).mono ?_
    rintro e w10 ⟨A10, c10', qs, rfl, hqz, hown10, hin10, hg10⟩
    have hql : qs.length ≤ 1024 := by
      have h1 := congrArg List.length hqz
      have h2 := HOk.out.len.2.2.2
      unfold gotZ at h1
      rw [List.length_map, List.length_map] at h1
      omega
    replace hgW := Grew.trans hgW hg10
    refine hK.out _ _ hgW ?_
    clear hK K hg hg10
    try simp only [Act.put, List.setIfInBounds_toArray, List.set_cons_zero, List.set_cons_succ]
    refine AllC.one 23 (by kernel_rfl) rfl ?_
    intro wg hg K hK
    go_simp
    replace hgW := Grew.trans hgW hg
    refine (same29_any A10 lag c10' lcg qs R.got wg (own_row (own_below hown10 hg)) (HRg.out wg (Grew.trans HG3.out hgW)).1 (fun c hc => ((hin10.up hg) c hc).1) (HRg.out wg (Grew.trans HG3.out hgW)).2 (by omega) (hqz.trans HF.out.got_)).mono ?_
    rintro e w11 ⟨rfl, hg11⟩
    replace hgW := Grew.trans hgW hg11
    refine hK.out _ _ hgW ?_
    clear hK K hg hg11 hown10 hin10 hqz hql
    try simp only [Act.put, List.setIfInBounds_toArray, List.set_cons_zero, List.set_cons_succ]
    have hcn : ∀ W, (convert 38 9 (.slice none 0 0)).run Try.prog W = .ok (.string (strOfNums [])) W := fun W => conv_row' (zs := []) (A := none) (B := 0) Row.nil 0
    refine AllC.head 24 13 (fuel := 1) (by first | exact fun h k => Grew.trans h k | exact fun h k => cls_grew h k) (hgW) (by rfl) (by kernel_rfl) ?_
    simp only [List.take_succ_cons, List.take_zero, List.drop_succ_cons, List.drop_zero]
    repeat (first
      | (refine HeadC.val (by rfl) ?_
         apply Exists.intro
         refine ⟨fun w' hw' => ?_, ?_⟩
         · ((go_simp) <;> (try go_ints) <;> with_reducible rfl)
         try simp only [Act.put, List.setIfInBounds_toArray, List.set_cons_zero, List.set_cons_succ])
      | (refine HeadC.shut (by rfl) ?_
         try simp only [Act.put, List.setIfInBounds_toArray, List.set_cons_zero, List.set_cons_succ]))
    refine HeadC.nil ?_
    refine AllC.tail 37 (by rfl) (by kernel_rfl) ?_
    intro wt hwt
    simp only [List.drop_succ_cons, List.drop_zero]
    have HGE := Lib.hid (Grew.trans HG0.out (Grew.trans HG3.out (Grew.trans hgW hwt)))
    clear hgW hwt
    go_wp2_with fail
    go_ret
    exact ⟨rfl, HGE.out⟩
end

/- Play37:
  stockyardlaw37.bytes; a receiver and the reference's receiver side by side: what goes on behind each step.
-/
section
set_option linter.unusedVariables false
set_option linter.unusedSimpArgs false
set_option linter.unnecessarySimpa false
open Go.RowKit
attribute [local go_sem ↓] Go.wp_at_zero Go.wp_at_succ

set_option maxRecDepth 100000 in
set_option maxHeartbeats 1000000 in
theorem bytes37_any (A : Option Addr) (c : Nat) (ps : List Part) (w : World) (hr : Row w w.heap.size A (chsC (rightC ps))) (hn : ps.length ≤ 1000000) :
    Calls Try.prog 32 #[.slice A ps.length c] w fun e w' => ∃ A' c', e = .returned (.slice A' ps.length c') ∧
      w'.ownsRow w.heap.size 38 1 (.slice A' ps.length c') ps.length (ps.map Part.v) ∧ Grew w w' := by
  have HR := Lib.hid hr
  have hrl := rightC_length ps
  clear hr
  go_enter Try.func32, Try.ntmps32
  go_wp2_with fail
  go_loopw [3, 4] (fun s v wr => ∃ (k : Nat) (Ao : Option Addr) (co : Nat), k ≤ ps.length ∧ v = .int .i64 k ∧ s = .slice Ao k co ∧ wr.ownsRow w.heap.size 38 1 (.slice Ao k co) k ((ps.map Part.v).take k) ∧ Below w.heap.size w wr) (fun _ v _ => ps.length - (intOf v).toNat)
  case atStart => exact ⟨0, none, 0, Nat.zero_le _, rfl, rfl, World.ownsRow_nil _ _ _ _, Below.refl _ _⟩
  case round =>
    obtain ⟨k, Ao, co, hk, rfl, rfl, hown, hb⟩ := hrel
    by_cases hlt : k < ps.length
    · obtain ⟨ad, hA, hbl, d0, d1, d2⟩ := chs_at (HR.out.below hb (Nat.le_refl _)) (k := k) (by rw [hrl]; exact hlt)
      have hc : (rightC ps)[k]'(by rw [hrl]; exact hlt) = ⟨idOf ps[k].zs, ps[k]⟩ := by simp [rightC]
      rw [hc] at d2
      have hsn := Lib.hid (show (ps.map Part.v).take (k + 1) = (ps.map Part.v).take k ++ [.slice ps[k].A ps[k].zs.length ps[k].cap] from by
        rw [List.take_succ_eq_append_getElem (by rw [List.length_map]; exact hlt), List.getElem_map]; rfl)
      generalize ps[k] = x at *
      obtain ⟨xA, xc, xz⟩ := x
      simp only at d2 hsn
      clear d0 d1 hc
      have hs0 := hb.size
      have ga := grew_alloc wr (.cells #[.slice xA xz.length xc] 38)
      have hown1 := own_below hown ga
      have hb1 : Below w.heap.size w (wr.alloc (.cells #[.slice xA xz.length xc] 38)) := Below.trans (B := w.heap.size) hb (ga.mono hs0)
      have hs1 := ga.size
      have HV := Lib.hid (Blk.row (Blk.new wr 38 #[.slice xA xz.length xc]))
      have HB := Lib.hid hb1
      clear hown hb ga hb1
      subst hA
      go_wp2_with (at_builtin; go_loud (refine wpList_append_row rfl (.tmp 11) (.tmp 17) rfl w.heap.size elem_bytes (by rfl) hown1 _ (by rfl) (by rfl) HV.out (by simp [Value.oneCell']) (by unfold maxLen; omega) (by omega) (by first | omega | (simp; omega)) ?_); intro A8 c8 w8 hown8 hg8 _)
      have HO := Lib.hid (show w8.ownsRow w.heap.size 38 1 (.slice A8 (k + 1) c8) (k + 1) ((ps.map Part.v).take (k + 1)) from by rw [hsn.out]; exact hown8)
      have hb8 : Below w.heap.size w w8 := Below.trans (B := w.heap.size) HB.out (below_grown hg8 (by omega) (own_lt hown1))
      clear hown1 hown8 hg8 d2
      go_wp2_with fail
      go_roundw
      case rel => exact ⟨k + 1, A8, c8, by omega, by go_num, rfl, HO.out, hb8⟩
      case measure => simp [intOf]; omega
    · obtain rfl : k = ps.length := by omega
      rw [List.take_of_length_le (by rw [List.length_map]; exact Nat.le_refl _)] at hown
      go_wp2_with fail
      go_ret
      exact ⟨Ao, co, rfl, hown, hb⟩

theorem idsC_nil {l : List IdZ} (h : idsC l = []) : l = [] := by
  cases l with
  | nil => rfl
  | cons x l => simp [idsC, idC] at h
theorem chsC_nil {l : List ChZ} (h : chsC l = []) : l = [] := by
  cases l with
  | nil => rfl
  | cons x l => simp [chsC, chC] at h
theorem AtD.lt {D : Nat → Prop} {A : Option Addr} {w : World} {xs : List Value} (h : AtD D A) (hr : Row w w.heap.size A xs) (hne : xs ≠ []) : AtD (fun i => i < w.heap.size ∧ D i) A := fun ad e => by
  rcases hr with hr | ⟨ad2, h1, h2, _⟩
  · exact absurd hr hne
  · rw [e] at h1; injection h1 with h1; subst h1; exact ⟨h2, h ad e⟩
/-- the cells of a reference's receiver in its box -/
def rfB5 (L : RfL) (R : RfR) : Array Value := #[.int .i64 R.n, .slice L.ai R.ids.length L.ci, .slice L.ah R.had.length L.ch, .slice L.ag R.got.length L.cg, .slice L.ap R.pre.length L.cp]
/-- both receivers: r what the program's holds, rr what the reference's holds -/
structure PlSt (wB W : World) (t B gW base g MT MR : Nat) (Lr : RcL) (r : Rcv) (L : RfL) (R : RfR) (rr : Rcv) : Prop where
  tp : Tp W t B MT
  box : Blk W gW 71 (rfB5 L R)
  rcv : RcvIs W base g MR Lr r
  ok : RcOk r
  rin : RecvIn r
  ref : RfIs W L R
  rel : RefOf R rr
  okr : RcOk rr
  at_ : RfAt (fun i => i < W.heap.size ∧ i ≠ t ∧ i ≠ gW ∧ ¬ Lr.F r g i) L R
  ch : Ch (At t) wB W
  lo : t < wB.heap.size ∧ wB.heap.size ≤ base ∧ base ≤ gW ∧ B ≤ t
section
variable {wB W W' : World} {t B gW base g MT MR : Nat} {Lr Lr' : RcL} {r r' rr rr' : Rcv} {L L' : RfL} {R R' : RfR}
theorem PlSt.of (h : PlSt wB W t B gW base g MT MR Lr r L R rr) (k : Grew W W') : PlSt wB W' t B gW base g MT MR Lr r L R rr :=
  ⟨h.tp.of k, h.box.of k, h.rcv.of k, h.ok, h.rin, h.ref.up k, h.rel, h.okr, h.at_.mono (fun i hi => ⟨Nat.lt_of_lt_of_le hi.1 k.size, hi.2⟩), h.ch.next k, h.lo⟩
theorem PlSt.more (h : PlSt wB W t B gW base g MT MR Lr r L R rr) {a b : Nat} (h1 : MT ≤ a) (h2 : MR ≤ b) : PlSt wB W t B gW base g a b Lr r L R rr := { h with tp := h.tp.more h1, rcv := h.rcv.more h2 }
theorem PlSt.notT (h : PlSt wB W t B gW base g MT MR Lr r L R rr) : ¬ Lr.F r g t := fun e => by have := h.rcv.Flo t e; have := h.lo; omega
theorem PlSt.notB (h : PlSt wB W t B gW base g MT MR Lr r L R rr) : ¬ Lr.F r g gW := h.rcv.notF h.box (by decide) (by decide) (by decide)
theorem PlSt.size (h : PlSt wB W t B gW base g MT MR Lr r L R rr) : wB.heap.size ≤ W.heap.size ∧ base ≤ W.heap.size ∧ gW < W.heap.size := ⟨h.ch.size, Nat.le_of_lt (Nat.lt_of_le_of_lt h.rcv.lo.1 h.rcv.lt), h.box.lt⟩
/-- the tape is read -/
theorem PlSt.tape (h : PlSt wB W t B gW base g MT MR Lr r L R rr) {MT' : Nat} (hT : Tp W' t B MT') (k : Ch (At t) W W') : PlSt wB W' t B gW base g MT' MR Lr r L R rr where
  tp := hT
  box := h.box.ch k (fun e => by have e2 : gW = t := e; have := h.lo; omega)
  rcv := h.rcv.ch k (fun i hi _ e => by have e2 : i = t := e; have := h.lo; omega)
  ok := h.ok
  rin := h.rin
  ref := h.ref.ch h.at_ k (fun i e hi => hi.2.1 e)
  rel := h.rel
  okr := h.okr
  at_ := h.at_.mono (fun i hi => ⟨Nat.lt_of_lt_of_le hi.1 k.size, hi.2⟩)
  ch := h.ch.trans k
  lo := h.lo
/-- the program's receiver takes -/
theorem PlSt.take (h : PlSt wB W t B gW base g MT MR Lr r L R rr) {MR' : Nat} (k : Stp W W' base g MR MR' Lr Lr' r r') (hok : RcOk r') (hin : RecvIn r') : PlSt wB W' t B gW base g MT MR' Lr' r' L R rr where
  tp := h.tp.ch k.ch h.notT (fun i hi => by have := h.rcv.Flo i hi; have := h.lo; omega)
  box := h.box.ch k.ch h.notB
  rcv := k.is
  ok := hok
  rin := hin
  ref := h.ref.ch h.at_ k.ch (fun i e hi => hi.2.2.2 e)
  rel := h.rel
  okr := h.okr
  at_ := h.at_.mono (fun i hi => ⟨Nat.lt_of_lt_of_le hi.1 k.ch.size, hi.2.1, hi.2.2.1, fun e => (k.fr i e).elim (fun e => hi.2.2.2 e) (fun e => by have := hi.1; omega)⟩)
  ch := h.ch.nextNew k.ch (fun i hi => .inl (Nat.le_trans h.lo.2.1 (h.rcv.Flo i hi)))
  lo := h.lo
/-- the reference's receiver is put into its box -/
theorem PlSt.put (h : PlSt wB W t B gW base g MT MR Lr r L R rr) {W1 : World} (k : Grew W W1) (h1 : RfIs W1 L' R') (h2 : RefOf R' rr') (h3 : RcOk rr') (h4 : ∀ D, RfAt D L R → RfAt (DnD D W.heap.size) L' R') :
    PlSt wB (((((W1.setCell ⟨gW, 0, none⟩ (.int .i64 R'.n)).setCell ⟨gW, 1, none⟩ (.slice L'.ai R'.ids.length L'.ci)).setCell ⟨gW, 2, none⟩ (.slice L'.ah R'.had.length L'.ch)).setCell ⟨gW, 3, none⟩ (.slice L'.ag R'.got.length L'.cg)).setCell ⟨gW, 4, none⟩ (.slice L'.ap R'.pre.length L'.cp)) t B gW base g MT MR Lr r L' R' rr' ∧
    Ch (At gW) W1 (((((W1.setCell ⟨gW, 0, none⟩ (.int .i64 R'.n)).setCell ⟨gW, 1, none⟩ (.slice L'.ai R'.ids.length L'.ci)).setCell ⟨gW, 2, none⟩ (.slice L'.ah R'.had.length L'.ch)).setCell ⟨gW, 3, none⟩ (.slice L'.ag R'.got.length L'.cg)).setCell ⟨gW, 4, none⟩ (.slice L'.ap R'.pre.length L'.cp)) := by
  have h5 := h.of k
  have hD : RfAt (fun i => i ≠ t ∧ i ≠ gW ∧ ¬ Lr.F r g i) L' R' := (h4 _ h.at_).mono (fun i hi => by
    rcases hi with hi | hi
    · exact hi.2
    · exact ⟨fun e => by have := h.size.1; have := h.lo; omega, fun e => by have := h.size.2.2; omega, fun e => by have := h.rcv.Flt i e; omega⟩)
  have hDl : RfAt (fun i => i < W1.heap.size ∧ i ≠ t ∧ i ≠ gW ∧ ¬ Lr.F r g i) L' R' :=
    ⟨fun e => (hD.ids e).lt (h1.rids) (by intro e2; exact e (idsC_nil e2)), fun e => (hD.had e).lt h1.rhad (by intro e2; exact e (chsC_nil e2)), fun e => (hD.got e).lt h1.rgot (by intro e2; exact e (chsC_nil e2)), fun e => (hD.pre e).lt h1.rpre (by intro e2; exact e (chsC_nil e2)),
      fun c hc e => (hD.bts c hc e).lt (by rcases hc with hc | hc | hc; exact h1.lhad c hc; exact h1.lgot c hc; exact h1.lpre c hc) (by intro e2; exact e (List.map_eq_nil_iff.1 e2)), hD.cap⟩
  have hB := (((((h5.box.set_ 0 (.int .i64 R'.n)).set_ 1 (.slice L'.ai R'.ids.length L'.ci)).set_ 2 (.slice L'.ah R'.had.length L'.ch)).set_ 3 (.slice L'.ag R'.got.length L'.cg)).set_ 4 (.slice L'.ap R'.pre.length L'.cp))
  have hc : Ch (At gW) W1 (((((W1.setCell ⟨gW, 0, none⟩ (.int .i64 R'.n)).setCell ⟨gW, 1, none⟩ (.slice L'.ai R'.ids.length L'.ci)).setCell ⟨gW, 2, none⟩ (.slice L'.ah R'.had.length L'.ch)).setCell ⟨gW, 3, none⟩ (.slice L'.ag R'.got.length L'.cg)).setCell ⟨gW, 4, none⟩ (.slice L'.ap R'.pre.length L'.cp)) :=
    (((((Ch.refl (At gW) W1).set_at 0 _).set_at 1 _).set_at 2 _).set_at 3 _).set_at 4 _
  refine ⟨⟨h5.tp.ch hc (fun e => by have e2 : t = gW := e; have := h.lo; omega) (fun i e => by have e2 : i = gW := e; have := h.lo; omega), hB, h5.rcv.chB hc h5.box (by decide) (by decide) (by decide), h.ok, h.rin, h1.ch hDl hc (fun i e hi => hi.2.2.1 e), h2, h3, hDl.mono (fun i hi => ⟨Nat.lt_of_lt_of_le hi.1 hc.size, hi.2⟩), h5.ch.nextNew hc (fun i e => .inl (by have e2 : i = gW := e; have := h.lo; omega)), h.lo⟩, hc⟩
theorem RfAt.bound {D : Nat → Prop} {w : World} (h : RfAt D L R) (h1 : RfIs w L R) : RfAt (fun i => i < w.heap.size ∧ D i) L R :=
  ⟨fun e => (h.ids e).lt (h1.rids) (by intro e2; exact e (idsC_nil e2)), fun e => (h.had e).lt h1.rhad (by intro e2; exact e (chsC_nil e2)), fun e => (h.got e).lt h1.rgot (by intro e2; exact e (chsC_nil e2)), fun e => (h.pre e).lt h1.rpre (by intro e2; exact e (chsC_nil e2)),
    fun c hc e => (h.bts c hc e).lt (by rcases hc with hc | hc | hc; exact h1.lhad c hc; exact h1.lgot c hc; exact h1.lpre c hc) (by intro e2; exact e (List.map_eq_nil_iff.1 e2)), h.cap⟩
/-- at the beginning -/
theorem PlSt.init {w10 w11 : World} (hT : Tp wB t B MT) (hBt : B ≤ t) (hg : Grew wB w10) (hI : RcvIs w10 wB.heap.size g MR Lr r) (ok : RcOk r) (rin : RecvIn r) (hg2 : Grew w10 w11) (hR : RfIs w11 L R) (hF : RefOf R r) (hA : RfAt (DnD (fun i => i < wB.heap.size ∧ i ≠ t) w10.heap.size) L R) :
    PlSt wB (w11.alloc (.cells (rfB5 L R) 71)) t B w11.heap.size wB.heap.size g MT MR Lr r L R r where
  tp := (hT.of (Grew.trans hg hg2)).of (grew_alloc _ _)
  box := Blk.new _ _ _
  rcv := (hI.of hg2).of (grew_alloc _ _)
  ok := ok
  rin := rin
  ref := hR.up (grew_alloc _ _)
  rel := hF
  okr := ok
  at_ := (hA.bound hR).mono (fun i hi => by
    have h1 := hg.size
    have h2 := hg2.size
    have h3 := hT.lt
    have h4 := (grew_alloc w11 (.cells (rfB5 L R) 71)).size
    refine ⟨by omega, ?_, by omega, fun e => ?_⟩
    · rcases hi.2 with hi | hi
      · exact hi.2
      · omega
    · rcases hi.2 with hi | hi
      · have := hI.Flo i e; omega
      · have := hI.Flt i e; omega)
  ch := Ch.of_below (Grew.trans (Grew.trans hg hg2) (grew_alloc _ _))
  lo := ⟨hT.lt, Nat.le_refl _, Nat.le_trans hg.size hg2.size, hBt⟩
theorem PlSt.wf (h : PlSt wB W t B gW base g MT MR Lr r L R rr) : ∀ c ∈ R.pre, WfI c.id := fun c hc => h.okr.wf _ (h.okr.sub _ (by rw [← h.rel.pre]; exact List.mem_map_of_mem hc))
end
end

end Go.Proofs.Ytpoiejgoongllaa
