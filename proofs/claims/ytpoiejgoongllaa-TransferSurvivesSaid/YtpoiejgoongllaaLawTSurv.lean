/-
  stockyardlaw37.TransferSurvives returns true.
-/
import Derived.Test.YtpoiejgoongllaaSurv37
namespace Go.Proofs.Ytpoiejgoongllaa
set_option linter.unusedVariables false
set_option linter.unusedSimpArgs false
set_option linter.unnecessarySimpa false
open Go.RowKit
attribute [local go_sem ↓] Go.wp_at_zero Go.wp_at_succ

/-- a chunk out of some, right or wrong -/
theorem some_fact {ps : List Part} (hS : Pcs37 ps) {q : ChZ} (h : q ∈ rightC ps ∨ WrongC (rightC ps) q) : WfI q.id ∧ Byt q.p.zs ∧ q.p.zs.length ≤ 4096 := by
  have key : ∀ c ∈ rightC ps, WfI c.id ∧ Byt c.p.zs ∧ c.p.zs.length ≤ 2049 := fun c hc => by
    unfold rightC at hc
    obtain ⟨p, hp, rfl⟩ := List.mem_map.1 hc
    exact ⟨pcs_wf hS _ (by unfold idsOf; exact List.mem_map.2 ⟨p, hp, rfl⟩), (hS p hp).len.2.2, (hS p hp).len.2.1⟩
  rcases h with h | ⟨c, hc, b, hb, h2, h3⟩
  · obtain ⟨a, b, c⟩ := key q h
    exact ⟨a, b, by omega⟩
  · obtain ⟨k1, k2, k3⟩ := key c hc
    refine ⟨by rw [h2]; exact k1, fun z hz => ?_, by rw [h3, List.length_cons, List.length_drop]; omega⟩
    rw [h3] at hz
    rcases List.mem_cons.1 hz with rfl | hz
    · omega
    · exact k2 z (List.mem_of_mem_drop hz)
set_option maxRecDepth 100000 in
set_option maxHeartbeats 8000000 in
theorem lawTSurv_any (A : Option Addr) (cap : Nat) (ls : List Int) (w : World) (hr : Row w w.heap.size A (ls.map (.int .i64))) (hz : ∀ z ∈ ls, -9223372036854775808 ≤ z ∧ z ≤ 9223372036854775807) (hm : ls.length ≤ 9223372036854775807) :
    Calls Try.prog 3 #[.slice A ls.length cap] w fun e w' => e = .returned (.bool true) ∧ Below w.heap.size w w' := by
  have hT := Tp.new (cap := cap) hr (Nat.le_refl _) hz hm
  have g0 := grew_alloc w (.cells #[.slice A ls.length cap, .int .i64 0] 25)
  have hch0 : Ch (At w.heap.size) w (w.alloc (.cells #[.slice A ls.length cap, .int .i64 0] 25)) := Ch.of_below g0
  clear hz g0 hr
  go_enter Try.func3, Try.ntmps3
  go_wp2_with fail
  generalize w.alloc (.cells #[.slice A ls.length cap, .int .i64 0] 25) = w1 at *
  refine (pieces37_any _ _ _ 4 _ hT (by omega) (by omega)).mono ?_
  rintro e w2 ⟨Ap, cp, ps, rfl, hpl, hS, hownp, hTx, hT2, hch, hcaps⟩
  have hb2 : Grew w w2 := (hch0.trans hch).below (Nat.le_refl _) (fun i hi => by rw [hi]; exact Nat.le_refl _)
  have htl0 := hT.lt
  have h12 := hch.size
  clear hT hch hch0
  have HS := Lib.hid hS
  have HCaps := Lib.hid hcaps
  have HPm := Lib.hid (pcs_pm hS)
  clear hS hcaps
  go_wp2_with fail
  refine (distinct_any Ap cp w2.heap.size ps w2 (own_row hownp) hTx.lie (Nat.le_refl _) (fun p hp => (HPm.out p hp).1) (fun p hp => (HPm.out p hp).2) (by omega)).mono ?_
  rintro e w3 ⟨bd, rfl, hbd, hb⟩
  have hg3 : Grew w w3 := Grew.trans hb2 hb
  replace hownp := own_below hownp hb
  replace hTx := hTx.of hb
  replace hT2 := hT2.of hb
  have h23 := hb.size
  clear hb hb2
  cases bd with
  | false =>
    go_wp2_with fail
    go_ret
    exact ⟨rfl, hg3⟩
  | true =>
  have HD := Lib.hid (hbd rfl)
  clear hbd
  go_wp2_with fail
  refine (right37_any Ap cp ps w3 (own_row hownp) hTx.lie HPm.out (by omega)).mono ?_
  rintro e w4 ⟨A4, c4, rfl, hown4, hb⟩
  have hg4 := Grew.trans hg3 hb
  replace hownp := own_below hownp hb
  replace hTx := hTx.of hb
  replace hT2 := hT2.of hb
  have h34 := hb.size
  clear hb hg3
  have htot := pcs_tot HS.out
  have htb : totP ps ≤ 1073741824 := by omega
  go_wp2_with fail
  refine (refOf25_any Ap cp _ _ ps w4 hownp hTx (fun p hp => (HPm.out p hp).1) (by omega) htb).mono ?_
  rintro e w5 ⟨A5, c5, rfl, hown5, hb⟩
  rw [totP_of]
  have hM := Blk.new w5 33 #[.int .i64 (totP ps : Nat), .slice A5 ps.length c5]
  have gM := grew_alloc w5 (.cells #[.int .i64 (totP ps : Nat), .slice A5 ps.length c5] 33)
  have hgb := Grew.trans hb gM
  have hg6 := Grew.trans hg4 hgb
  replace hownp := own_below hownp hgb
  replace hown4 := own_below hown4 hgb
  replace hown5 := own_below hown5 gM
  replace hTx := hTx.of hgb
  replace hT2 := hT2.of hgb
  have h45 := hb.size
  have hgt : w.heap.size < w5.heap.size := by omega
  clear hb gM hgb hg4
  go_wp2_with fail
  generalize w5.alloc (.cells #[.int .i64 (totP ps : Nat), .slice A5 ps.length c5] 33) = w6 at *
  generalize w5.heap.size = gm at *
  have hl7 : ¬ At w.heap.size gm := fun h => by have h2 : gm = w.heap.size := h; omega
  have HNB := Lib.hid (tape_noBytes' hT2)
  refine (tapeNext_any _ _ _ 6 _ hT2 (by omega) (by omega)).mono ?_
  rintro e w7 ⟨bad, rfl, hbx, hT7, hch7⟩
  have hbad : bad < 6 := by omega
  clear hbx hT2
  have HC7 := Lib.hid hch7
  clear hch7
  go_wp2_with fail
  refine (faults37_any _ _ _ bad _ hT7 (by omega) (by omega)).mono ?_
  rintro e w8 ⟨AF, fc, fl, rfl, hfl, hFD, hownF, hFl, hT8, hch8⟩
  have hchA := HC7.out.trans hch8
  have hM8 := hM.ch hchA hl7
  have h4b : w.heap.size < w3.heap.size := by omega
  have ho5 := own_ch hown5 hchA (fun i hi h => by have := own_lt hown5 i hi; have h' : i = w.heap.size := h; omega)
  have ho4 := own_mono (own_ch hown4 hchA (fun i hi h => by have := own_lt hown4 i hi; have h' : i = w.heap.size := h; omega)) (show w1.heap.size ≤ w3.heap.size by omega)
  have hop := own_ch hownp hchA (fun i hi h => by have := own_lt hownp i hi; have h' : i = w.heap.size := h; omega)
  have hTx8 := hTx.ch hchA HNB.out
  have HGA : Hid (Ch (At w.heap.size) w w8) := Lib.hid ((Ch.of_below hg6).trans hchA)
  have hs18 : w1.heap.size ≤ w8.heap.size := by have h7 := hchA.size; have h8 := hM.lt; omega
  have hs78 : w7.heap.size ≤ w8.heap.size := hch8.size
  have hs67 := HC7.out.size
  have hgw7 : w.heap.size < w7.heap.size := by have h8 := hM.lt; omega
  have HO5 := Lib.hid ho5
  have HO4 := Lib.hid ho4
  have HOp := Lib.hid hop
  have HTx := Lib.hid hTx8
  have HOF := Lib.hid hownF
  have HFl := Lib.hid hFl
  have HFD := Lib.hid hFD
  have HFb := Lib.hid hfl
  clear hfl
  have HM := Lib.hid hM8
  have HSZ := Lib.hid hs18
  have hrp := own_row hop
  clear hM ho5 ho4 hop hTx hTx8 hown5 hown4 hownp hg6 hchA hch8 hT7 HC7 HNB hownF hFl hFD hM8
  go_wp2_with fail
  go_loopw [9, 10] (fun s v wr => ∃ k : Nat, k ≤ ps.length ∧ v = .int .i64 k ∧ s = .int .i64 (wantN ((idsOf ps).take k) : Nat) ∧ wantN ((idsOf ps).take k) ≤ 3 ∧ Drawn w8 wr) (fun _ v _ => ps.length - (intOf v).toNat)
  case atStart => exact ⟨0, Nat.zero_le _, rfl, rfl, Nat.zero_le _, Drawn.refl _⟩
  case round =>
    obtain ⟨k, hk, rfl, rfl, hwn, hdr⟩ := hrel
    by_cases hlt : k < ps.length
    · obtain ⟨ad, hA, hbl, d0⟩ := part_at (hrp.keep (w' := wr) fun p _ => hdr.cell p) hlt
      have hlen := (HS.out _ (List.getElem_mem hlt)).len
      have hid1 : (idsOf ps)[k]'(by rw [idsOf_length]; exact hlt) = idOf ps[k].zs := by simp [idsOf]
      have hsn := wantN_snoc (idsOf ps) k (by rw [idsOf_length]; exact hlt)
      rw [hid1, show ((idOf ps[k].zs).2).toNat = ps[k].zs.length from Int.toNat_natCast _] at hsn
      have hsn := Lib.hid hsn
      generalize ps[k].zs.length = zl at *
      generalize ps[k].A = pA at *
      generalize ps[k].cap = pc at *
      clear hid1
      obtain ⟨hz1, hz2, _⟩ := hlen
      generalize hw0 : wantN ((idsOf ps).take k) = m at *
      clear hw0
      have hq1 : wrap64 ((zl : Int) + 1024 - 1) = (zl : Int) + 1024 - 1 := Go.IntWalk.wrap64_in _ (by omega)
      obtain ⟨qn, hqn⟩ : ∃ qn : Nat, (zl + 1023) / 1024 = qn := ⟨_, rfl⟩
      have hqI : ((zl : Int) + 1024 - 1) / 1024 = (qn : Int) := by omega
      have hq9 : qn ≤ 3 := by omega
      have hmx : max (m : Int) (qn : Int) = ((max m qn : Nat) : Int) := by omega
      rw [hqn] at hsn
      have hx9 : max m qn ≤ 3 := by omega
      generalize max m qn = mm at *
      have HN := Lib.hid hsn.out
      clear hsn hqn
      subst hA
      go_wp2_with fail
      go_roundw
      case rel => exact ⟨k + 1, by omega, by go_num, by rw [HN.out], by rw [HN.out]; omega, hdr⟩
      case measure => simp [intOf]; omega
    · obtain rfl : k = ps.length := by omega
      rw [show (idsOf ps).take ps.length = idsOf ps from List.take_of_length_le (by rw [idsOf_length]; exact Nat.le_refl _)] at hwn ⊢
      have HL : Hid (∀ p ∈ ps, (p.zs.length + 1023) / 1024 ≤ wantN (idsOf ps)) := Lib.hid (fun p hp => by
        have h1 := (wantN_le (idsOf ps) (wantN (idsOf ps))).1 (Nat.le_refl _) (idOf p.zs) (by unfold idsOf; exact List.mem_map.2 ⟨p, hp, rfl⟩)
        have h2 : ((idOf p.zs).2).toNat = p.zs.length := Int.toNat_natCast _
        omega)
      generalize wantN (idsOf ps) = L at *
      have HG8 := Lib.hid (grew_drawn hdr)
      have hT9 := hT8.of HG8.out
      clear hT8 hdr
      obtain ⟨R, hR⟩ : ∃ R : Nat, R = bad + 2 * L := ⟨_, rfl⟩
      have hRs : R ≤ 1000 := by omega
      have hLs : L ≤ 3 := hwn
      obtain ⟨L2, hL2⟩ : ∃ L2 : Nat, 2 * L = L2 := ⟨_, rfl⟩
      have HW : Hid ((IntKind.i64.wrap (2 * (L : Int)) = (L2 : Int) ∧ wrap64 (2 * (L : Int)) = (L2 : Int)) ∧ IntKind.i64.wrap ((bad : Int) + (L2 : Int)) = (R : Int) ∧ wrap64 ((bad : Int) + (L2 : Int)) = (R : Int)) := Lib.hid (by
        have e1 : 2 * (L : Int) = (L2 : Int) := by omega
        have e2 : (bad : Int) + (L2 : Int) = (R : Int) := by omega
        have b1 : (L2 : Int) ≤ 6 ∧ 0 ≤ (L2 : Int) := by omega
        have b2 : (R : Int) ≤ 1000 ∧ 0 ≤ (R : Int) := by omega
        rw [e1, e2]
        exact ⟨⟨Go.IntWalk.i64_in _ (by omega), Go.IntWalk.wrap64_in _ (by omega)⟩, Go.IntWalk.i64_in _ (by omega), Go.IntWalk.wrap64_in _ (by omega)⟩)
      have HR := Lib.hid hR
      clear hR hL2
      have hTr := HTx.out.of HG8.out
      have HSm := some37_yes w.heap.size w.heap.size _ w1.heap.size A4 c4 (rightC ps) wr.drew (hT9.of (grew_drew wr)) (by rw [rightC_length]; exact own_below HO4.out (HG8.out.trans (grew_drew wr))) (by rw [rightC_length]; omega) (by omega)
        (fun c hc => by
          unfold rightC at hc
          obtain ⟨p, hp, rfl⟩ := List.mem_map.1 hc
          have := (HS.out p hp).len
          exact ⟨(hTr p hp).of (grew_drew wr), this.1, HCaps.out p hp, by have := this.2.1; show p.zs.length ≤ _; omega⟩) (Nat.le_trans HSZ.out (HG8.out.trans (grew_drew wr)).size)
      clear HSm
      have HSm := Lib.hid (fun (W : World) (hg : Grew wr W) => some37_yes w.heap.size w.heap.size _ w1.heap.size A4 c4 (rightC ps) W (hT9.of hg) (by rw [rightC_length]; exact own_below HO4.out (HG8.out.trans hg)) (by rw [rightC_length]; omega) (by omega)
        (fun c hc => by
          unfold rightC at hc
          obtain ⟨p, hp, rfl⟩ := List.mem_map.1 hc
          have := (HS.out p hp).len
          exact ⟨(hTr p hp).of hg, this.1, HCaps.out p hp, by have := this.2.1; show p.zs.length ≤ _; omega⟩) (Nat.le_trans HSZ.out (HG8.out.trans hg).size))
      have HNB := Lib.hid (tape_noBytes' hT9)
      have m0 := ((HM.out.of HG8.out).cell 0).trans (show _ = some (.int .i64 (totP ps : Nat)) from rfl)
      have m1 := ((HM.out.of HG8.out).cell 1).trans (show _ = some (.slice A5 ps.length c5) from rfl)
      have HTr := Lib.hid hTr
      clear hTr hrp hT9
      go_upto_region 14 with (fail)
      refine wp_region_cls (Ch (At w.heap.size) wr) 17 (by kernel_rfl) ?_
      have hc0 := (Ch.refl (At w.heap.size) wr).drew
      refine AllC.head 0 3 (fuel := 15) (by first | exact fun h k => Grew.trans h k | exact fun h k => cls_grew h k) (hc0) (by rfl) (by kernel_rfl) ?_
      simp only [List.take_succ_cons, List.take_zero, List.drop_succ_cons, List.drop_zero]
      repeat (first
        | (refine HeadC.val (by rfl) ?_
           apply Exists.intro
           refine ⟨fun w' hw' => ?_, ?_⟩
           · (have hf_0 := hw'.cell m0 hl7; have hf_1 := hw'.cell m1 hl7; (go_simp) <;> (try go_ints) <;> with_reducible rfl)
           try simp only [Act.put, List.setIfInBounds_toArray, List.set_cons_zero, List.set_cons_succ])
        | (refine HeadC.shut (by rfl) ?_
           try simp only [Act.put, List.setIfInBounds_toArray, List.set_cons_zero, List.set_cons_succ]))
      refine HeadC.nil ?_
      obtain ⟨⟨hR1, hR1b⟩, hR2, hR2b⟩ := HW.out
      refine AllC.head 4 6 (fuel := 9) (by first | exact fun h k => Grew.trans h k | exact fun h k => cls_grew h k) (hc0) (by rfl) (by kernel_rfl) ?_
      simp only [List.take_succ_cons, List.take_zero, List.drop_succ_cons, List.drop_zero]
      repeat (first
        | (refine HeadC.val (by rfl) ?_
           apply Exists.intro
           refine ⟨fun w' hw' => ?_, ?_⟩
           · (have hf_0 := hc0; (go_simp) <;> (try go_ints) <;> with_reducible rfl)
           try simp only [Act.put, List.setIfInBounds_toArray, List.set_cons_zero, List.set_cons_succ])
        | (refine HeadC.shut (by rfl) ?_
           try simp only [Act.put, List.setIfInBounds_toArray, List.set_cons_zero, List.set_cons_succ]))
      refine HeadC.nil ?_
      clear hR1 hR1b hR2 hR2b
      refine AllC.one 3 (by kernel_rfl) rfl ?_
      intro wg hg K hK
      go_simp
      have hg1 : Grew wr wg := (grew_drew wr).trans hg
      have HS1 := HSm.out wg hg1
      unfold SomeWRes at HS1
      rw [rightC_length] at HS1
      refine HS1.mono ?_
      clear HS1 HSm
      rintro e w9 ⟨A7, c7, qs, rfl, hql, hqm, hown7, hq7, _, hch9⟩
      have hC9 : Ch (At w.heap.size) wr w9 := (Ch.of_below hg1).trans hch9
      refine hK.out _ _ hC9 ?_
      clear hK K hg hch9 hc0
      try simp only [Act.put, List.setIfInBounds_toArray, List.set_cons_zero, List.set_cons_succ]
      have hC8 : Ch (At w.heap.size) w8 w9 := (Ch.of_below HG8.out).trans hC9
      have hne : ∀ {base : Nat} {e : TypeId} {size n : Nat} {v : Value} {xs : List Value}, w8.ownsRow base e size v n xs → w.heap.size < base → w9.ownsRow base e size v n xs := fun ho hb => own_ch ho hC8 (fun i hi h => by have := own_lt ho i hi; have h' : i = w.heap.size := h; omega)
      have hw1lt : w.heap.size < w1.heap.size := by omega
      have hr5 := own_row (hne HO5.out (by omega))
      have hr4 := own_row (hne HO4.out hw1lt)
      have hrp := own_row (hne HOp.out hw1lt)
      have hrF := own_row (hne HOF.out (by omega))
      have hrf : ∀ f ∈ fl, Row w9 w9.heap.size f.A (ftsC f.fs) := fun f hf => own_row (hne (HFl.out f hf) (by omega))
      have hTg := HTr.out.ch hC9 HNB.out
      have hin1 : ChsIn w9 qs := fun q hq => ⟨(hq7 q hq).1.row, (hq7 q hq).2, by have := (some_fact HS.out (hqm q hq)).2.2; omega⟩
      have HOld := Lib.hid (fun W (hb : Grew w9 W) => old37 (cp := cp) (c4 := c4) hr4 hrp hTg.lie HCaps.out HS.out hb (Nat.le_refl _))
      have hr7 := own_row hown7
      have HRI := Lib.hid (fun W (hg : Grew w9 W) => (⟨(hr5.up hg (Nat.le_refl _)).more hg.size, (hr7.up hg (Nat.le_refl _)).more hg.size, hin1.up hg, by have := (HOld.out W hg).1; exact this, (HOld.out W hg).2.1, (hrF.up hg (Nat.le_refl _)).more hg.size, fun f hf => ((hrf f hf).up hg (Nat.le_refl _)).more hg.size⟩ : RunIn W A5 (idsOf ps) A7 qs A4 (rightC ps) AF fl))
      have HQ := Lib.hid hqm
      have HRO : Hid (RunOk (idsOf ps) qs (rightC ps) fl) := Lib.hid ⟨pcs_wf HS.out, fun q hq => by obtain ⟨a, b, _⟩ := some_fact HS.out (HQ.out q hq); exact ⟨a, b⟩, (right_in hTg HCaps.out HS.out (fun q hq => hq)).2, fun f hf => ⟨fun x hx => ((HFD.out f hf).2 x hx).ok, by have := (HFD.out f hf).1; omega⟩, by rw [idsOf_length]; omega, by omega, by rw [rightC_length]; omega, by rw [HFb.out]; omega⟩
      have HChk := Lib.hid (pcs_chk HS.out (by omega))
      have HG9 : Hid (Grew w w9) := Lib.hid ((HGA.out.trans hC8).below (Nat.le_refl _) (fun i hi => by rw [hi]; exact Nat.le_refl _))
      clear hne hr5 hr4 hrp hrF hrf hTg hin1 hr7 hown7 hq7 hqm hC8
      refine AllC.one 10 (by kernel_rfl) rfl ?_
      intro wg hg K hK
      have HRun := run37_any (totP ps) A5 c5 (idsOf ps) A7 c7 qs A4 c4 (rightC ps) (R : Int) AF fc fl wg (HRI.out wg hg) HRO.out (by omega) (by omega)
      simp only [idsOf_length, rightC_length] at HRun
      go_simp
      refine HRun.mono ?_
      clear HRun
      rintro e w12 ⟨hg12, hif⟩
      rw [if_pos HChk.out] at hif
      obtain ⟨n1, A12, c12, hRd, rfl, hown12⟩ := hif
      obtain ⟨hme, hnR, hcl⟩ := surv_end HD.out HS.out HQ.out (fun q hq => (some_fact HS.out (HQ.out q hq)).2.1) HChk.out (fs := fl.map Fts.fs) (fun l hl => by
        obtain ⟨f, hf, rfl⟩ := List.mem_map.1 hl
        exact HFD.out f hf) (bad := bad) (L := L) (by rw [List.length_map, HFb.out]; exact Nat.le_refl _) HL.out (by omega) (by rw [← HR.out]; exact hRd)
      rw [← HR.out] at hnR
      have hz : runZ (rcvAt (rightC ps) (fl.map Fts.fs) (recvR (totP ps) (idsOf ps) qs) n1) = flat ps := by
        unfold runZ; rw [if_pos hme]; exact clean_done HD.out hcl hme
      rw [hz] at hown12
      rw [hz, decide_eq_true hme]
      clear hRd hme hcl hz
      have hC12 : Ch (At w.heap.size) wr w12 := (hC9.next hg).next hg12
      refine hK.out _ _ hC12 ?_
      clear hK K hC9
      try simp only [Act.put, List.setIfInBounds_toArray, List.set_cons_zero, List.set_cons_succ]
      have HG12 := Lib.hid (Grew.trans HG9.out (Grew.trans hg hg12))
      have HGO := Lib.hid (Grew.trans hg hg12)
      have hr12 := own_row hown12
      have HFLn := Lib.hid (flat_len ps)
      clear hown12 hg hg12
      refine AllC.head 11 6 (fuel := 1) (by first | exact fun h k => Grew.trans h k | exact fun h k => cls_grew h k) (hC12) (by rfl) (by kernel_rfl) ?_
      simp only [List.take_succ_cons, List.take_zero, List.drop_succ_cons, List.drop_zero]
      repeat (first
        | (refine HeadC.val (by rfl) ?_
           apply Exists.intro
           refine ⟨fun w' hw' => ?_, ?_⟩
           · ((go_simp) <;> (try go_ints) <;> with_reducible rfl)
           try simp only [Act.put, List.setIfInBounds_toArray, List.set_cons_zero, List.set_cons_succ])
        | (refine HeadC.shut (by rfl) ?_
           try simp only [Act.put, List.setIfInBounds_toArray, List.set_cons_zero, List.set_cons_succ]))
      refine HeadC.nil ?_
      refine AllC.tail 17 (by rfl) (by kernel_rfl) ?_
      intro wt hwt
      simp only [List.drop_succ_cons, List.drop_zero]
      have HGT := Lib.hid hwt
      have hnRI : (n1 : Int) ≤ (R : Int) := by omega
      have hr13 := (hr12.up hwt (Nat.le_refl _)).more hwt.size
      clear hwt hC12 hr12 m0 m1
      go_upto_region 15 with (fail)
      refine wp_region_g 20 (by kernel_rfl) ?_
      refine AllC.one 0 (by kernel_rfl) rfl ?_
      intro wg hg K hK
      go_simp
      have hg13 : Grew wt wg := (grew_drew _).trans hg
      refine (known37_any wg).mono ?_
      rintro e w14 ⟨rfl, hb14⟩
      have hg14 := Grew.trans hg13 hb14
      refine hK.out _ _ hg14 ?_
      clear hK K hg hg13 hb14
      try simp only [Act.put, List.setIfInBounds_toArray, List.set_cons_zero, List.set_cons_succ]
      obtain ⟨⟨hR1, hR1b⟩, hR2, hR2b⟩ := HW.out
      refine AllC.head 1 15 (fuel := 5) (by first | exact fun h k => Grew.trans h k | exact fun h k => cls_grew h k) (hg14) (by rfl) (by kernel_rfl) ?_
      simp only [List.take_succ_cons, List.take_zero, List.drop_succ_cons, List.drop_zero]
      repeat (first
        | (refine HeadC.val (by rfl) ?_
           apply Exists.intro
           refine ⟨fun w' hw' => ?_, ?_⟩
           · (have hf_0 := conv_row' (hr13.up hw' (Nat.le_refl _)) c12; (go_simp) <;> (try go_ints) <;> with_reducible rfl)
           try simp only [Act.put, List.setIfInBounds_toArray, List.set_cons_zero, List.set_cons_succ])
        | (refine HeadC.shut (by rfl) ?_
           try simp only [Act.put, List.setIfInBounds_toArray, List.set_cons_zero, List.set_cons_succ]))
      refine HeadC.nil ?_
      clear hR1 hR1b hR2 hR2b
      refine AllC.one 16 (by kernel_rfl) rfl ?_
      intro wg hg K hK
      go_simp
      have hg15 := Grew.trans hg14 hg
      obtain ⟨_, _, j1, j2⟩ := HOld.out wg (Grew.trans (Grew.trans HGO.out HGT.out) hg15)
      refine (joined_any Ap cp _ ps wg j1 j2 (Nat.le_refl _) (by omega) (by rw [HFLn.out]; omega)).mono ?_
      rintro e w16 ⟨A14, c14, rfl, hown14, hg16⟩
      have hg17 := Grew.trans hg15 hg16
      refine hK.out _ _ hg17 ?_
      clear hK K hg hg14 hg15 hg16 j1 j2
      try simp only [Act.put, List.setIfInBounds_toArray, List.set_cons_zero, List.set_cons_succ]
      refine AllC.one 17 (by kernel_rfl) rfl ?_
      intro wg hg K hK
      go_simp
      have q1 := conv_row' ((own_row hown14).up hg (Nat.le_refl _)) c14
      have hg18 := Grew.trans hg17 hg
      go_simp
      refine hK.out _ _ hg18 ?_
      clear hK K hg hg17 q1
      try simp only [Act.put, List.setIfInBounds_toArray, List.set_cons_zero, List.set_cons_succ]
      refine AllC.head 18 2 (fuel := 1) (by first | exact fun h k => Grew.trans h k | exact fun h k => cls_grew h k) (hg18) (by rfl) (by kernel_rfl) ?_
      simp only [List.take_succ_cons, List.take_zero, List.drop_succ_cons, List.drop_zero]
      repeat (first
        | (refine HeadC.val (by rfl) ?_
           apply Exists.intro
           refine ⟨fun w' hw' => ?_, ?_⟩
           · ((go_simp) <;> (try go_ints) <;> with_reducible rfl)
           try simp only [Act.put, List.setIfInBounds_toArray, List.set_cons_zero, List.set_cons_succ])
        | (refine HeadC.shut (by rfl) ?_
           try simp only [Act.put, List.setIfInBounds_toArray, List.set_cons_zero, List.set_cons_succ]))
      refine HeadC.nil ?_
      refine AllC.tail 20 (by rfl) (by kernel_rfl) ?_
      intro wt hwt
      simp only [List.drop_succ_cons, List.drop_zero]
      have HGE := Lib.hid (Grew.trans HG12.out (Grew.trans HGT.out (Grew.trans hg18 hwt)))
      clear hg18 hwt hown14
      go_wp2_with fail
      go_ret
      exact ⟨rfl, HGE.out⟩
end Go.Proofs.Ytpoiejgoongllaa
