/-
  stockyardlaw37.TransferEnds returns true.
-/
import Derived.Test.YtpoiejgoongllaaIdsOf37
namespace Go.Proofs.Ytpoiejgoongllaa
set_option linter.unusedVariables false
set_option linter.unusedSimpArgs false
set_option linter.unnecessarySimpa false
open Go.RowKit
attribute [local go_sem ↓] Go.wp_at_zero Go.wp_at_succ

set_option maxRecDepth 100000 in
set_option maxHeartbeats 8000000 in
theorem lawTEnds_any (A : Option Addr) (cap : Nat) (ls : List Int) (w : World) (hr : Row w w.heap.size A (ls.map (.int .i64))) (hz : ∀ z ∈ ls, -9223372036854775808 ≤ z ∧ z ≤ 9223372036854775807) (hm : ls.length ≤ 9223372036854775807) :
    Calls Try.prog 10 #[.slice A ls.length cap] w fun e w' => e = .returned (.bool true) ∧ Below w.heap.size w w' := by
  have hT := Tp.new (cap := cap) hr (Nat.le_refl _) hz hm
  have g0 := grew_alloc w (.cells #[.slice A ls.length cap, .int .i64 0] 25)
  have hch0 : Ch (At w.heap.size) w (w.alloc (.cells #[.slice A ls.length cap, .int .i64 0] 25)) := Ch.of_below g0
  clear hz g0 hr
  go_enter Try.func10, Try.ntmps10
  go_wp2_with fail
  generalize w.alloc (.cells #[.slice A ls.length cap, .int .i64 0] 25) = w1 at *
  refine (pieces37_any _ _ _ 5 _ hT (by omega) (by omega)).mono ?_
  rintro e w2 ⟨Ap, cp, ps, rfl, hpl, hS, hownp, hTx, hT2, hch, hcaps⟩
  have hb2 : Grew w w2 := (hch0.trans hch).below (Nat.le_refl _) (fun i hi => by rw [hi]; exact Nat.le_refl _)
  have htl0 := hT.lt
  have h12 := hch.size
  clear hT hch hch0
  have HS := Lib.hid hS
  have HCaps := Lib.hid hcaps
  have HPm := Lib.hid (pcs_pm hS)
  clear hS hcaps
  go_wp2_with fail
  refine (distinct_any Ap cp w2.heap.size ps w2 (own_row hownp) hTx.lie (Nat.le_refl _) (fun p hp => (HPm.out p hp).1) (fun p hp => (HPm.out p hp).2) (by omega)).mono ?_
  rintro e w3 ⟨bd, rfl, hbd, hb⟩
  have hg3 : Grew w w3 := Grew.trans hb2 hb
  replace hownp := own_below hownp hb
  replace hTx := hTx.of hb
  replace hT2 := hT2.of hb
  have h23 := hb.size
  clear hb hb2
  cases bd with
  | false =>
    go_wp2_with fail
    go_ret
    exact ⟨rfl, hg3⟩
  | true =>
  have HD := Lib.hid (hbd rfl)
  clear hbd
  go_wp2_with fail
  refine (right37_any Ap cp ps w3 (own_row hownp) hTx.lie HPm.out (by omega)).mono ?_
  rintro e w4 ⟨A4, c4, rfl, hown4, hb⟩
  have hg4 := Grew.trans hg3 hb
  replace hownp := own_below hownp hb
  replace hTx := hTx.of hb
  replace hT2 := hT2.of hb
  have h34 := hb.size
  clear hb hg3
  have htot := pcs_tot HS.out
  have htb : totP ps ≤ 1073741824 := by omega
  go_wp2_with fail
  refine (refOf25_any Ap cp _ _ ps w4 hownp hTx (fun p hp => (HPm.out p hp).1) (by omega) htb).mono ?_
  rintro e w5 ⟨A5, c5, rfl, hown5, hb⟩
  rw [totP_of]
  have hM := Blk.new w5 33 #[.int .i64 (totP ps : Nat), .slice A5 ps.length c5]
  have gM := grew_alloc w5 (.cells #[.int .i64 (totP ps : Nat), .slice A5 ps.length c5] 33)
  have hgb := Grew.trans hb gM
  have hg6 := Grew.trans hg4 hgb
  replace hownp := own_below hownp hgb
  replace hown4 := own_below hown4 hgb
  replace hown5 := own_below hown5 gM
  replace hTx := hTx.of hgb
  replace hT2 := hT2.of hgb
  have h45 := hb.size
  have hgt : w.heap.size < w5.heap.size := by omega
  clear hb gM hgb hg4
  go_wp2_with fail
  generalize w5.alloc (.cells #[.int .i64 (totP ps : Nat), .slice A5 ps.length c5] 33) = w6 at *
  generalize w5.heap.size = gm at *
  have hl7 : ¬ At w.heap.size gm := fun h => by have h2 : gm = w.heap.size := h; omega
  have HNB := tape_noBytes' hT2
  have HSm := some37_no w.heap.size w.heap.size _ _ A4 c4 (rightC ps) w6 hT2 (by rw [rightC_length]; exact hown4) (by rw [rightC_length]; omega) (by omega)
  unfold Some37Res at HSm
  rw [rightC_length] at HSm
  refine HSm.mono ?_
  clear HSm
  rintro e w7 ⟨A7, c7, qs, rfl, hql, hqm, hown7, hT7, hch7⟩
  have hsz7 := hch7.size
  have hM7 := hM.ch hch7 hl7
  have hr5 := own_row (own_ch hown5 hch7 (fun i hi h => by have := own_lt hown5 i hi; have h' : i = w.heap.size := h; omega))
  have hr4 := own_row (own_ch hown4 hch7 (fun i hi h => by have := own_lt hown4 i hi; have h' : i = w.heap.size := h; omega))
  have hrp := own_row (own_ch hownp hch7 (fun i hi h => by have := own_lt hownp i hi; have h' : i = w.heap.size := h; omega))
  have hTg := hTx.ch hch7 HNB
  obtain ⟨hin1, hin2⟩ := right_in hTg HCaps.out HS.out hqm
  have hgw : Ch (At w.heap.size) w w7 := (Ch.of_below hg6).trans hch7
  have HOld := Lib.hid (fun W (hb : Grew w7 W) => old37 (cp := cp) (c4 := c4) hr4 hrp hTg.lie HCaps.out HS.out hb (Nat.le_refl _))
  have HQ := Lib.hid hqm
  have HW := Lib.hid hin2
  have hr7 := own_row hown7
  have HRI := Lib.hid (fun W (hg : Grew w7 W) => (⟨(hr5.up hg (Nat.le_refl _)).more hg.size, (hr7.up hg (Nat.le_refl _)).more hg.size, hin1.up hg, by have := (HOld.out W hg).1; exact this, (HOld.out W hg).2.1, .nil, fun f hf => (by cases hf)⟩ : RunIn W A5 (idsOf ps) A7 qs A4 (rightC ps) none []))
  have HRO : Hid (RunOk (idsOf ps) qs (rightC ps) []) := Lib.hid ⟨pcs_wf HS.out, hin2, (right_in hTg HCaps.out HS.out (fun q hq => hq)).2, fun f hf => (by cases hf), by rw [idsOf_length]; omega, by omega, by rw [rightC_length]; omega, by simp⟩
  have HMI := Lib.hid (MidI.zero HD.out (fun p hp => (HS.out p hp).len.1) (clean_recv HD.out HQ.out (pcs_chk HS.out (by omega)) (pcs_wf HS.out) (fun p hp => (HPm.out p hp).1)) (fun x => rfl))
  have HLf := Lib.hid (fun x => left_miss HQ.out (totP ps) x)
  have HChk := Lib.hid (pcs_chk HS.out (by omega))
  clear hch7 hown4 hown5 hownp hTx hT2 hT7 hM HNB hg6 hl7 hin1 hin2 hqm hTg hown7
  have m0 := (hM7.cell 0).trans (show _ = some (.int .i64 (totP ps : Nat)) from rfl)
  have m1 := (hM7.cell 1).trans (show _ = some (.slice A5 ps.length c5) from rfl)
  have HM := Lib.hid hM7
  clear hM7 hr4 hrp
  go_upto_region 8 with (fail)
  refine wp_region_g 8 (by kernel_rfl) ?_
  have hgW : Grew w7 w7.drew := grew_drew _
  refine AllC.head 0 2 (fuel := 7) (by first | exact fun h k => Grew.trans h k | exact fun h k => cls_grew h k) (hgW) (by rfl) (by kernel_rfl) ?_
  simp only [List.take_succ_cons, List.take_zero, List.drop_succ_cons, List.drop_zero]
  repeat (first
    | (refine HeadC.val (by rfl) ?_
       apply Exists.intro
       refine ⟨fun w' hw' => ?_, ?_⟩
       · (have hf_0 := cell_up hw' m0; have hf_1 := cell_up hw' m1; (go_simp) <;> (try go_ints) <;> with_reducible rfl)
       try simp only [Act.put, List.setIfInBounds_toArray, List.set_cons_zero, List.set_cons_succ])
    | (refine HeadC.shut (by rfl) ?_
       try simp only [Act.put, List.setIfInBounds_toArray, List.set_cons_zero, List.set_cons_succ]))
  refine HeadC.nil ?_
  refine AllC.one 2 (by kernel_rfl) rfl ?_
  intro wg hg K hK
  go_simp
  replace hgW := Grew.trans hgW hg
  refine (idsOf37_any A7 c7 qs wg ((hr7.up hgW (Nat.le_refl _)).more hgW.size) (by omega)).mono ?_
  rintro e w8 ⟨A8, c8, rfl, hown8, hb⟩
  replace hgW := Grew.trans hgW hb
  refine hK.out _ _ hgW ?_
  clear hK K hg hb
  try simp only [Act.put, List.setIfInBounds_toArray, List.set_cons_zero, List.set_cons_succ]
  refine AllC.one 3 (by kernel_rfl) rfl ?_
  intro wg hg K hK
  go_simp
  replace hgW := Grew.trans hgW hg
  have HMs := missing25_any (totP ps : Nat) A5 c5 wg.heap.size (idsOf ps) A8 c8 (qs.map ChZ.id) wg ((hr5.up hgW (Nat.le_refl _)).more hgW.size) (own_row (own_below hown8 hg)) (pcs_wf HS.out) (fun x hx => by
    obtain ⟨q, hq, rfl⟩ := List.mem_map.1 hx
    exact (HW.out q hq).1) (Nat.le_refl _) (by rw [idsOf_length]; omega) (by rw [List.length_map]; omega)
  have e1 : misL ((totP ps : Nat) : Int) (qs.map ChZ.id) (idsOf ps) = missL (qs.map ChZ.id) (idsOf ps) := by unfold misL; rw [if_pos HChk.out]
  rw [e1, HChk.out, List.length_map, idsOf_length] at HMs
  clear e1
  have HLw : Hid (∀ x ∈ missL (qs.map ChZ.id) (idsOf ps), x ∈ idsOf ps) := Lib.hid (fun x hx => ((mem_missL2 _ _ _).1 hx).1)
  have hll : (missL (qs.map ChZ.id) (idsOf ps)).length ≤ 5 := by have h := missL_len (qs.map ChZ.id) (idsOf ps) _ (Nat.le_refl _); rw [List.take_length, idsOf_length] at h; omega
  generalize hleft : missL (qs.map ChZ.id) (idsOf ps) = left at *
  clear hleft
  refine HMs.mono ?_
  rintro e w9 ⟨A9, c9, rfl, hown9, hb⟩
  replace hgW := Grew.trans hgW hb
  refine hK.out _ _ hgW ?_
  clear hK K hg hb HMs hown8
  try simp only [Act.put, List.setIfInBounds_toArray, List.set_cons_zero, List.set_cons_succ]
  refine AllC.head 4 4 (fuel := 1) (by first | exact fun h k => Grew.trans h k | exact fun h k => cls_grew h k) (hgW) (by rfl) (by kernel_rfl) ?_
  simp only [List.take_succ_cons, List.take_zero, List.drop_succ_cons, List.drop_zero]
  repeat (first
    | (refine HeadC.val (by rfl) ?_
       apply Exists.intro
       refine ⟨fun w' hw' => ?_, ?_⟩
       · ((go_simp) <;> (try go_ints) <;> with_reducible rfl)
       try simp only [Act.put, List.setIfInBounds_toArray, List.set_cons_zero, List.set_cons_succ])
    | (refine HeadC.shut (by rfl) ?_
       try simp only [Act.put, List.setIfInBounds_toArray, List.set_cons_zero, List.set_cons_succ]))
  refine HeadC.nil ?_
  refine AllC.tail 8 (by rfl) (by kernel_rfl) ?_
  intro wt hwt
  simp only [List.drop_succ_cons, List.drop_zero]
  replace hgW := Grew.trans hgW hwt
  replace hown9 := own_below hown9 hwt
  clear hwt m0 m1
  go_wp2_with fail
  refine (known37_any _).mono ?_
  rintro e wk ⟨rfl, hb⟩
  replace hgW := Grew.trans hgW hb
  replace hown9 := own_below hown9 hb
  clear hb
  have HLx : Hid (∀ x ∈ left, 0 ≤ x.2 ∧ x.2 ≤ 8192) := Lib.hid (fun x hx => by
    have h1 := pcs_ok HS.out
    have h2 := okId_bd (List.all_eq_true.1 h1 x (HLw.out x hx))
    omega)
  have HGW := Lib.hid hgW
  have hr9 := own_row hown9
  clear hgW hown9
  go_wp2_with fail
  go_loopw [10, 11] (fun s v wr => ∃ k : Nat, k ≤ left.length ∧ v = .int .i64 k ∧ s = .int .i64 (wantN (left.take k) : Nat) ∧ wantN (left.take k) ≤ 9 ∧ Drawn wk wr) (fun _ v _ => left.length - (intOf v).toNat)
  case atStart => exact ⟨0, Nat.zero_le _, rfl, rfl, Nat.zero_le _, Drawn.refl _⟩
  case round =>
    obtain ⟨k, hk, rfl, rfl, hwn, hdr⟩ := hrel
    by_cases hlt : k < left.length
    · obtain ⟨ad, hA, hbl, d0, d1⟩ := ids_at (hr9.keep (w' := wr) fun p _ => hdr.cell p) hlt
      have hsn := Lib.hid (wantN_snoc left k hlt)
      have hbd := HLx.out _ (List.getElem_mem hlt)
      generalize left[k] = x at *
      obtain ⟨x1, x2⟩ := x
      simp only at d0 d1 hsn hbd
      obtain ⟨b1, b2⟩ := hbd
      generalize hw0 : wantN (left.take k) = m at *
      clear hw0
      have hq1 : wrap64 (x2 + 1024 - 1) = x2 + 1024 - 1 := Go.IntWalk.wrap64_in _ (by omega)
      obtain ⟨qn, hqn⟩ : ∃ qn : Nat, (x2.toNat + 1023) / 1024 = qn := ⟨_, rfl⟩
      have hqI : (x2 + 1024 - 1) / 1024 = (qn : Int) := by omega
      have hq9 : qn ≤ 9 := by omega
      have hmx : max (m : Int) (qn : Int) = ((max m qn : Nat) : Int) := by omega
      rw [hqn] at hsn
      have hx9 : max m qn ≤ 9 := by omega
      generalize max m qn = mm at *
      have HN := Lib.hid hsn.out
      clear hsn hqn
      subst hA
      go_wp2_with fail
      go_roundw
      case rel => exact ⟨k + 1, by omega, by go_num, by rw [HN.out], by rw [HN.out]; omega, hdr⟩
      case measure => simp [intOf]; omega
    · obtain rfl : k = left.length := by omega
      rw [List.take_length] at hwn ⊢
      have hG1 : Grew w7 wr := HGW.out.trans (grew_drawn hdr)
      have m0 := ((HM.out.of hG1).cell 0).trans (show _ = some (.int .i64 (totP ps : Nat)) from rfl)
      have m1 := ((HM.out.of hG1).cell 1).trans (show _ = some (.slice A5 ps.length c5) from rfl)
      have HRun := run37_any (totP ps) A5 c5 (idsOf ps) A7 c7 qs A4 c4 (rightC ps) 99 none 0 [] wr (HRI.out wr hG1) HRO.out (by omega) (by omega)
      simp only [idsOf_length, rightC_length, List.length_nil] at HRun
      have HRun' := Lib.hid HRun
      have HG1 := Lib.hid hG1
      clear HRun hG1 hdr
      go_wp2_with fail
      refine HRun'.out.mono ?_
      clear HRun' m0 m1
      rintro e w12 ⟨hg12, hif⟩
      rw [if_pos HChk.out] at hif
      obtain ⟨n1, A12, c12, hRd, rfl, hown12⟩ := hif
      obtain ⟨hn1, hme, hw3⟩ := ends_enough HD.out (fun p hp => (HPm.out p hp).1) (fun p hp => (HS.out p hp).len.2.1) HMI.out HLf.out (by omega) hRd
      have hcl := (ends_at HD.out (fun p hp => (HPm.out p hp).1) HMI.out n1).1.clean
      have hz : runZ (rcvAt (rightC ps) [] (recvR (totP ps) (idsOf ps) qs) n1) = flat ps := by
        unfold runZ; rw [if_pos hme]; exact clean_done HD.out hcl hme
      rw [List.map_nil, hz] at hown12
      rw [List.map_nil, hz, decide_eq_true hme]
      subst hn1
      clear hRd hme hcl hz
      have HWN := Lib.hid (fun h0 n hn => ends_early HD.out (fun p hp => (HPm.out p hp).1) HMI.out HLf.out (n := n) h0 hw3 hn)
      generalize wantN left = wn at *
      replace HG1 := Lib.hid (HG1.out.trans hg12)
      have hr12 := own_row hown12
      have HFL := Lib.hid (flat_len ps)
      clear hown12 hg12
      go_wp2_with fail
      refine wp_region_g 14 (by kernel_rfl) ?_
      refine AllC.head 0 11 (fuel := 4) (by first | exact fun h k => Grew.trans h k | exact fun h k => cls_grew h k) (grew_drew _) (by rfl) (by kernel_rfl) ?_
      simp only [List.take_succ_cons, List.take_zero, List.drop_succ_cons, List.drop_zero]
      repeat (first
        | (refine HeadC.val (by rfl) ?_
           apply Exists.intro
           refine ⟨fun w' hw' => ?_, ?_⟩
           · (have hf_0 := conv_row' (hr12.up hw' (Nat.le_refl _)) c12; (go_simp) <;> (try go_ints) <;> with_reducible rfl)
           try simp only [Act.put, List.setIfInBounds_toArray, List.set_cons_zero, List.set_cons_succ])
        | (refine HeadC.shut (by rfl) ?_
           try simp only [Act.put, List.setIfInBounds_toArray, List.set_cons_zero, List.set_cons_succ]))
      refine HeadC.nil ?_
      refine AllC.one 11 (by kernel_rfl) rfl ?_
      intro wg hg K hK
      go_simp
      have hg13 : Grew w12 wg := (grew_drew _).trans hg
      have hgA := HG1.out.trans hg13
      obtain ⟨_, _, j1, j2⟩ := HOld.out wg hgA
      refine (joined_any Ap cp _ ps wg j1 j2 (Nat.le_refl _) (by omega) (by rw [HFL.out]; omega)).mono ?_
      rintro e w14 ⟨A14, c14, rfl, hown14, hg14⟩
      have hg15 := Grew.trans hg13 hg14
      refine hK.out _ _ hg15 ?_
      clear hK K hg hg13 hg14 j1 j2 hgA
      try simp only [Act.put, List.setIfInBounds_toArray, List.set_cons_zero, List.set_cons_succ]
      refine AllC.one 12 (by kernel_rfl) rfl ?_
      intro wg hg K hK
      go_simp
      have q1 := conv_row' ((own_row hown14).up hg (Nat.le_refl _)) c14
      have hg16 := Grew.trans hg15 hg
      go_simp
      refine hK.out _ _ hg16 ?_
      clear hK K hg hg15 q1
      try simp only [Act.put, List.setIfInBounds_toArray, List.set_cons_zero, List.set_cons_succ]
      refine AllC.head 13 1 (fuel := 1) (by first | exact fun h k => Grew.trans h k | exact fun h k => cls_grew h k) (hg16) (by rfl) (by kernel_rfl) ?_
      simp only [List.take_succ_cons, List.take_zero, List.drop_succ_cons, List.drop_zero]
      repeat (first
        | (refine HeadC.val (by rfl) ?_
           apply Exists.intro
           refine ⟨fun w' hw' => ?_, ?_⟩
           · ((go_simp) <;> (try go_ints) <;> with_reducible rfl)
           try simp only [Act.put, List.setIfInBounds_toArray, List.set_cons_zero, List.set_cons_succ])
        | (refine HeadC.shut (by rfl) ?_
           try simp only [Act.put, List.setIfInBounds_toArray, List.set_cons_zero, List.set_cons_succ]))
      refine HeadC.nil ?_
      refine AllC.tail 14 (by rfl) (by kernel_rfl) ?_
      intro wt hwt
      simp only [List.drop_succ_cons, List.drop_zero]
      have hg17 := Grew.trans hg16 hwt
      have HG17 := Lib.hid (HG1.out.trans hg17)
      clear hg16 hwt hg17 hown14
      have m0 := ((HM.out.of HG17.out).cell 0).trans (show _ = some (.int .i64 (totP ps : Nat)) from rfl)
      have m1 := ((HM.out.of HG17.out).cell 1).trans (show _ = some (.slice A5 ps.length c5) from rfl)
      have HRun := run37_any (totP ps) A5 c5 (idsOf ps) A7 c7 qs A4 c4 (rightC ps) ((wn : Int) - 1) none 0 [] wt (HRI.out wt HG17.out) HRO.out (by omega) (by omega)
      simp only [idsOf_length, rightC_length, List.length_nil] at HRun
      have HRun' := Lib.hid HRun
      have hwq : IntKind.i64.wrap ((wn : Int) - 1) = (wn : Int) - 1 := Go.IntWalk.i64_in _ (by omega)
      clear HRun
      go_wp2_with fail
      refine HRun'.out.mono ?_
      clear HRun' m0 m1
      rintro e w18 ⟨hg18, hif⟩
      rw [if_pos HChk.out] at hif
      obtain ⟨n2, A18, c18, hRd2, rfl, hown18⟩ := hif
      rw [List.map_nil] at hRd2 ⊢
      have hGE := HG17.out.trans hg18
      have hbE : Below w.heap.size w w18 := Below.trans (B := w.heap.size) (hgw.below (Nat.le_refl _) (fun k h => by have h2 : k = w.heap.size := h; omega)) (hGE.mono hgw.size)
      have HBE := Lib.hid hbE
      have HRd2 := Lib.hid hRd2
      clear hRd2 hown18 hg18 hGE hbE
      by_cases hw0 : wn = 0
      · subst hw0
        generalize rcvAt (rightC ps) [] (recvR (totP ps) (idsOf ps) qs) n2 = R2 at *
        go_wp2_with fail
        all_goals
          go_ret
          exact ⟨rfl, HBE.out⟩
      · obtain ⟨hn2, hmn⟩ := HWN.out (by omega) n2 HRd2.out
        rw [decide_eq_false hmn]
        generalize rcvAt (rightC ps) [] (recvR (totP ps) (idsOf ps) qs) n2 = R2 at *
        rw [hn2]
        have hz0 : ((wn : Int) == 0) = false := by simp; omega
        clear hn2 hmn HRd2
        go_wp2_with fail
        all_goals
          go_ret
          exact ⟨ret_bool (by simp), HBE.out⟩
end Go.Proofs.Ytpoiejgoongllaa
