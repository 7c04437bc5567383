/-
  stockyardlaw37.TransferOnce returns true.
-/
import Derived.Test.YtpoiejgoongllaaStart37
namespace Go.Proofs.Ytpoiejgoongllaa
set_option linter.unusedVariables false
set_option linter.unusedSimpArgs false
set_option linter.unnecessarySimpa false
open Go.RowKit
attribute [local go_sem ↓] Go.wp_at_zero Go.wp_at_succ

set_option maxRecDepth 100000 in
set_option maxHeartbeats 8000000 in
theorem lawTOnce_any (A : Option Addr) (cap : Nat) (ls : List Int) (w : World) (hr : Row w w.heap.size A (ls.map (.int .i64))) (hz : ∀ z ∈ ls, -9223372036854775808 ≤ z ∧ z ≤ 9223372036854775807) (hm : ls.length ≤ 9223372036854775807) :
    Calls Try.prog 5 #[.slice A ls.length cap] w fun e w' => e = .returned (.bool true) ∧ Below w.heap.size w w' := by
  have hT := Tp.new (cap := cap) hr (Nat.le_refl _) hz hm
  have g0 := grew_alloc w (.cells #[.slice A ls.length cap, .int .i64 0] 25)
  have hch0 : Ch (At w.heap.size) w (w.alloc (.cells #[.slice A ls.length cap, .int .i64 0] 25)) := Ch.of_below g0
  clear hz g0 hr
  go_enter Try.func5, Try.ntmps5
  go_wp2_with fail
  generalize w.alloc (.cells #[.slice A ls.length cap, .int .i64 0] 25) = w1 at *
  refine (pieces37_any _ _ _ 5 _ hT (by omega) (by omega)).mono ?_
  rintro e w2 ⟨Ap, cp, ps, rfl, hpl, hS, hownp, hTx, hT2, hch, hcaps⟩
  have hb2 : Grew w w2 := (hch0.trans hch).below (Nat.le_refl _) (fun i hi => by rw [hi]; exact Nat.le_refl _)
  have htl0 := hT.lt
  have h12 := hch.size
  clear hT hch hch0
  have HS := Lib.hid hS
  have HCaps := Lib.hid hcaps
  have HPm := Lib.hid (pcs_pm hS)
  clear hS hcaps
  go_wp2_with fail
  refine (distinct_any Ap cp w2.heap.size ps w2 (own_row hownp) hTx.lie (Nat.le_refl _) (fun p hp => (HPm.out p hp).1) (fun p hp => (HPm.out p hp).2) (by omega)).mono ?_
  rintro e w3 ⟨bd, rfl, hbd, hb⟩
  have hg3 : Grew w w3 := Grew.trans hb2 hb
  replace hownp := own_below hownp hb
  replace hTx := hTx.of hb
  replace hT2 := hT2.of hb
  have h23 := hb.size
  clear hb hb2
  cases bd with
  | false =>
    go_wp2_with fail
    go_ret
    exact ⟨rfl, hg3⟩
  | true =>
  have HD := Lib.hid (hbd rfl)
  clear hbd
  go_wp2_with fail
  refine (right37_any Ap cp ps w3 (own_row hownp) hTx.lie HPm.out (by omega)).mono ?_
  rintro e w4 ⟨A4, c4, rfl, hown4, hb⟩
  have hg4 := Grew.trans hg3 hb
  replace hownp := own_below hownp hb
  replace hTx := hTx.of hb
  replace hT2 := hT2.of hb
  have h34 := hb.size
  clear hb hg3
  have htot := pcs_tot HS.out
  have htb : totP ps ≤ 1073741824 := by omega
  go_wp2_with fail
  refine (refOf25_any Ap cp _ _ ps w4 hownp hTx (fun p hp => (HPm.out p hp).1) (by omega) htb).mono ?_
  rintro e w5 ⟨A5, c5, rfl, hown5, hb⟩
  rw [totP_of]
  have hM := Blk.new w5 33 #[.int .i64 (totP ps : Nat), .slice A5 ps.length c5]
  have gM := grew_alloc w5 (.cells #[.int .i64 (totP ps : Nat), .slice A5 ps.length c5] 33)
  have hgb := Grew.trans hb gM
  have hg6 := Grew.trans hg4 hgb
  replace hownp := own_below hownp hgb
  replace hown4 := own_below hown4 hgb
  replace hown5 := own_below hown5 gM
  replace hTx := hTx.of hgb
  replace hT2 := hT2.of hgb
  have h45 := hb.size
  have hgt : w.heap.size < w5.heap.size := by omega
  clear hb gM hgb hg4
  go_upto_region 7 with (fail)
  generalize w5.alloc (.cells #[.int .i64 (totP ps : Nat), .slice A5 ps.length c5] 33) = w6 at *
  generalize w5.heap.size = gm at *
  have hl7 : ¬ At w.heap.size gm := fun h => by have h2 : gm = w.heap.size := h; omega
  have m0 := (hM.cell 0).trans (show _ = some (.int .i64 (totP ps : Nat)) from rfl)
  have m1 := (hM.cell 1).trans (show _ = some (.slice A5 ps.length c5) from rfl)
  have HNB := tape_noBytes' hT2
  have hc0 := (Ch.refl (At w.heap.size) w6).drew
  refine wp_region_cls (Ch (At w.heap.size) w6) 9 (by kernel_rfl) ?_
  refine AllC.head 0 3 (fuel := 7) (by first | exact fun h k => Grew.trans h k | exact fun h k => cls_grew h k) (hc0) (by rfl) (by kernel_rfl) ?_
  simp only [List.take_succ_cons, List.take_zero, List.drop_succ_cons, List.drop_zero]
  repeat (first
    | (refine HeadC.val (by rfl) ?_
       apply Exists.intro
       refine ⟨fun w' hw' => ?_, ?_⟩
       · (have hf_0 := hw'.cell m0 hl7; have hf_1 := hw'.cell m1 hl7; (go_simp) <;> (try go_ints) <;> with_reducible rfl)
       try simp only [Act.put, List.setIfInBounds_toArray, List.set_cons_zero, List.set_cons_succ])
    | (refine HeadC.shut (by rfl) ?_
       try simp only [Act.put, List.setIfInBounds_toArray, List.set_cons_zero, List.set_cons_succ]))
  refine HeadC.nil ?_
  refine AllC.one 3 (by kernel_rfl) rfl ?_
  intro wg hg K hK
  go_simp
  have hg1 : Grew w6 wg := (grew_drew w6).trans hg
  have HSm := some37_no w.heap.size w.heap.size _ _ A4 c4 (rightC ps) wg (hT2.of hg1) (by rw [rightC_length]; exact own_below hown4 hg1) (by rw [rightC_length]; omega) (by omega)
  unfold Some37Res at HSm
  rw [rightC_length] at HSm
  refine HSm.mono ?_
  rintro e w7 ⟨A7, c7, qs, rfl, hql, hqm, hown7, hT7, hch7⟩
  have hA7 : Ch (At w.heap.size) w6 w7 := (Ch.of_below hg1).trans hch7
  refine hK.out _ _ hA7 ?_
  clear HSm hK K hg hg1 hch7 hc0
  try simp only [Act.put, List.setIfInBounds_toArray, List.set_cons_zero, List.set_cons_succ]
  refine AllC.one 4 (by kernel_rfl) rfl ?_
  intro wg hg K hK
  go_simp
  have hcg := hA7.next hg
  have hr5 := own_row (own_ch hown5 hcg (fun i hi h => by have := own_lt hown5 i hi; have h' : i = w.heap.size := h; omega))
  have hr4 := own_row (own_ch hown4 hcg (fun i hi h => by have := own_lt hown4 i hi; have h' : i = w.heap.size := h; omega))
  have hrp := own_row (own_ch hownp hcg (fun i hi h => by have := own_lt hownp i hi; have h' : i = w.heap.size := h; omega))
  have hTg := hTx.ch hcg HNB
  obtain ⟨hin1, hin2⟩ := right_in hTg HCaps.out HS.out hqm
  have HR := receive37_any (totP ps) A5 c5 (idsOf ps) A7 c7 qs wg hr5 (pcs_wf HS.out) (by rw [idsOf_length]; omega) (own_row (own_below hown7 hg)) hin1 hin2 (by omega)
  unfold RecvRes at HR
  rw [idsOf_length] at HR
  refine HR.mono ?_
  rintro e w8 ⟨hg8, hif⟩
  rw [if_pos (pcs_chk HS.out (by omega))] at hif
  obtain ⟨g, L0, rfl, hI⟩ := hif
  have hc8 := hcg.next hg8
  have hsz7 := hcg.size
  have hsz8 := hg8.size
  refine hK.out _ _ hc8 ?_
  have HOld := Lib.hid (fun W (hb : Below wg.heap.size wg W) => old37 (cp := cp) (c4 := c4) hr4 hrp hTg.lie HCaps.out HS.out hb (Nat.le_refl _))
  have hgw : Ch (At w.heap.size) w wg := (Ch.of_below hg6).trans hcg
  have HQ := Lib.hid hqm
  clear HR hK K hg hcg hr5 hr4 hrp hTg hin1 hin2 hown7 hT7 hqm hT2 hTx hownp hown4 hown5 hM m0 m1 hA7 HNB hg6 hl7
  try simp only [Act.put, List.setIfInBounds_toArray, List.set_cons_zero, List.set_cons_succ]
  refine AllC.head 5 4 (fuel := 1) (by first | exact fun h k => Grew.trans h k | exact fun h k => cls_grew h k) (hc8) (by rfl) (by kernel_rfl) ?_
  simp only [List.take_succ_cons, List.take_zero, List.drop_succ_cons, List.drop_zero]
  repeat (first
    | (refine HeadC.val (by rfl) ?_
       apply Exists.intro
       refine ⟨fun w' hw' => ?_, ?_⟩
       · ((go_simp) <;> (try go_ints) <;> with_reducible rfl)
       try simp only [Act.put, List.setIfInBounds_toArray, List.set_cons_zero, List.set_cons_succ])
    | (refine HeadC.shut (by rfl) ?_
       try simp only [Act.put, List.setIfInBounds_toArray, List.set_cons_zero, List.set_cons_succ]))
  refine HeadC.nil ?_
  refine AllC.tail 9 (by rfl) (by kernel_rfl) ?_
  intro wt hwt
  simp only [List.drop_succ_cons, List.drop_zero]
  have hI8 := hI.of hwt
  have hg9 : Grew wg wt := hg8.trans hwt
  clear hI hg8 hwt hc8
  go_wp2_with fail
  refine (known37_any _).mono ?_
  rintro e w9 ⟨rfl, hb⟩
  have hI9 := hI8.of hb
  have hg10 : Grew wg w9 := hg9.trans hb
  have hs9 := hb.size
  clear hI8 hg9 hb
  obtain ⟨wb, hwb⟩ : ∃ x, x = wg := ⟨_, rfl⟩
  subst hwb
  have HI := Lib.hid hI9
  have HM0 := Lib.hid (MidI.zero HD.out (fun p hp => (HS.out p hp).len.1) (clean_recv HD.out HQ.out (pcs_chk HS.out (by omega)) (pcs_wf HS.out) (fun p hp => (HPm.out p hp).1)) (fun x => rfl))
  have hs79 := hg10.size
  clear hI9
  go_wp2_with fail
  go_loopw [9] (fun i wr => ∃ (k M : Nat) (L : RcL) (r : Rcv), k ≤ 4 ∧ i = .int .i64 k ∧ RcvIs wr wb.heap.size g M L r ∧ MidI ps r k ∧ M ≤ 5 + 20 * k ∧ Below wb.heap.size wb wr) (fun i _ => 4 - (intOf i).toNat)
  case atStart => exact ⟨0, qs.length, L0, _, by omega, rfl, HI.out, HM0.out, by omega, hg10⟩
  case round =>
    clear HI HM0 hg10
    obtain ⟨k, M, L, r, hk, rfl, hI, hMid, hM, hbr⟩ := hrel
    have hids := hMid.clean.ids
    have hok := hMid.clean.ok
    have hml : r.miss.length ≤ 5 := by have h1 := hok.cnt; rw [hids, idsOf_length] at h1; omega
    have hbs := hbr.size
    by_cases hlt : k < 4
    · have hltI : (k : Int) < 4 := by omega
      have HA := ask37_any 9 _ hI hok
      rw [askL_all (r := r) (most := 9) (by omega), hMid.ask, askQ_length] at HA
      have HA' := Lib.hid HA
      clear HA
      go_wp2_with fail
      refine HA'.out.mono ?_
      clear HA'
      rintro e w10 ⟨A10, c10, rfl, hownA, hgA⟩
      have hI10 := hI.of hgA
      have HMs := Lib.hid (missing37_any _ hI10 hok)
      go_wp2_with fail
      refine HMs.out.mono ?_
      clear HMs
      rintro e w11 ⟨A11, c11, rfl, hownM, hgM⟩
      have hI11 := hI10.of hgM
      replace hownA := own_below hownA hgM
      have hFlt := hI.Flt
      have hR0 := hMid.start
      have hs10 := hgA.size
      have hs11 := hgM.size
      have hb11 : Below wb.heap.size wb w11 := Below.trans (B := wb.heap.size) hbr ((Grew.trans hgA hgM).mono hbs)
      have HI11 := Lib.hid hI11
      have HR0 := Lib.hid hR0
      have HFlt := Lib.hid hFlt
      clear hI hI10 hI11 hR0 hMid hgA hgM hbr hids hok hFlt
      generalize r.miss = l at *
      generalize wr.heap.size = h1 at *
      go_wp2_with fail
      go_loopw [12] (fun v wi => ∃ (i M' : Nat) (L' : RcL) (r' : Rcv), i ≤ l.length ∧ v = .int .i64 i ∧ RcvIs wi wb.heap.size g M' L' r' ∧ RndI ps r' l i k ∧ M' ≤ M + 4 * i ∧ Below wb.heap.size wb wi ∧ Ch (fun x => x < h1 ∨ w11.heap.size ≤ x) w11 wi ∧ (∀ x, L'.F r' g x → x < h1 ∨ w11.heap.size ≤ x)) (fun v _ => l.length - (intOf v).toNat)
      case atStart => exact ⟨0, M, L, r, Nat.zero_le _, rfl, HI11.out, HR0.out, by omega, hb11, Ch.refl _ _, fun x hx => .inl (HFlt.out x hx)⟩
      case round =>
        clear HI11 HR0 HFlt hb11
        obtain ⟨i, M', L', r', hi, rfl, hI', hR, hM', hbi, hch, hF⟩ := hrel
        by_cases hlt2 : i < l.length
        · have hltI2 : (i : Int) < (l.length : Int) := by omega
          obtain ⟨t1, t2, t3, t4, t5⟩ := hR.step HD.out (fun p hp => (HPm.out p hp).1) hlt2
          have hsz := hch.size
          have hoA := own_row (own_ch hownA hch (fun z hz h => by have h1 := own_lt hownA z hz; have h2 := (hownA.lt z hz).2; omega))
          have hoM := own_row (own_ch hownM hch (fun z hz h => by have h1 := own_lt hownM z hz; have h2 := (hownM.lt z hz).2; omega))
          obtain ⟨ad, hA, hbl, p0, p1, p2, p3, p4⟩ := pks_at hoA (k := i) (by rw [askQ_length]; exact hlt2)
          rw [askQ_get hlt2] at p0 p1 p2 p3 p4
          simp only [Part.v, List.length_nil] at p0 p1 p2 p3 p4
          obtain ⟨ad2, hA2, hbl2, d0, d1⟩ := ids_at hoM hlt2
          have hxm := List.getElem_mem hlt2
          have hxw := pcs_wf HS.out _ (hR.lids _ hxm)
          have hsrv := srv_right HD.out (hR.lids _ hxm) (hR.long _ hxm)
          have hyb : Byt (ansZ (1024 * k) (txt ps l[i])) := ansZ_byt (by
            obtain ⟨_, _, p, hp, e⟩ := txt_id HD.out (hR.lids _ hxm)
            rw [e]; exact (HPm.out p hp).1) (1024 * k)
          have hyl : (ansZ (1024 * k) (txt ps l[i])).length ≤ 1024 := by rw [ansZ_len]; omega
          have HT2 := Lib.hid t2
          have HOk := Lib.hid hR.clean.ok
          clear t1 t2 hoA hoM hR hxm
          generalize ansZ (1024 * k) (txt ps l[i]) = ys at *
          generalize hx : l[i] = x at *
          clear hx
          obtain ⟨x1, x2⟩ := x
          simp only at p1 p2 d0 d1
          have HX := Lib.hid hxw
          have HY := Lib.hid hyb
          have HSrv := Lib.hid hsrv
          have HT3 := Lib.hid t3
          have HT4 := Lib.hid t4
          have HT5 := Lib.hid t5
          clear hxw hyb hsrv t3 t4 t5
          subst hA
          subst hA2
          go_wp2_with fail
          refine wp_region_g 27 (by kernel_rfl) ?_
          refine AllC.head 0 27 (fuel := 0) (by first | exact fun h k => Grew.trans h k | exact fun h k => cls_grew h k) (grew_drew _) (by rfl) (by kernel_rfl) ?_
          simp only [List.take_succ_cons, List.take_zero, List.drop_succ_cons, List.drop_zero]
          repeat (first
            | (refine HeadC.val (by rfl) ?_
               apply Exists.intro
               refine ⟨fun w' hw' => ?_, ?_⟩
               · (have hf_0 := cell_up hw' p0; have hf_1 := cell_up hw' p1; have hf_2 := cell_up hw' p2; have hf_3 := cell_up hw' p3; have hf_4 := cell_up hw' p4; have hf_5 := cell_up hw' d0; have hf_6 := cell_up hw' d1; (go_simp) <;> (try go_ints) <;> with_reducible rfl)
               try simp only [Act.put, List.setIfInBounds_toArray, List.set_cons_zero, List.set_cons_succ])
            | (refine HeadC.shut (by rfl) ?_
               try simp only [Act.put, List.setIfInBounds_toArray, List.set_cons_zero, List.set_cons_succ]))
          refine HeadC.nil ?_
          refine AllC.done (by kernel_rfl) (fun wt hwt => ?_)
          have hgt2 : Grew wr wt := (grew_drew _).trans hwt
          replace p0 := cell_up hgt2 p0
          replace p1 := cell_up hgt2 p1
          replace p2 := cell_up hgt2 p2
          replace p3 := cell_up hgt2 p3
          replace p4 := cell_up hgt2 p4
          clear hwt d0 d1
          have hbase : wb.heap.size ≤ wr.heap.size := hbi.size
          have hgts := hgt2.size
          have hbt2 : Below wb.heap.size wb wt := Below.trans (B := wb.heap.size) hbi (hgt2.mono hbase)
          obtain ⟨o1, o2, _, _⟩ := HOld.out wt hbt2
          have HSv := serve_any ⟨1, (x1, x2), ((1024 * k : Nat) : Int), ⟨none, 0, []⟩⟩ A4 c4 (rightC ps) wt o1 o2 (by rw [rightC_length]; omega)
          simp only at HSv
          rw [HSrv.out] at HSv
          unfold AnsRes at HSv
          simp only [rightC_length, Part.v, List.length_nil] at HSv
          have HSv' := Lib.hid HSv
          clear HSv o1 o2 hbt2
          go_wp2_with fail
          refine HSv'.out.mono ?_
          clear HSv' p0 p1 p2 p3 p4
          rintro e w14 ⟨A14, c14, rfl, hown14, hg14⟩
          unfold pkV Part.v
          simp only
          have gB := grew_alloc w14 (.cells #[.int .i64 2, .int .u64 x1, .int .i64 x2, .int .i64 ((1024 * k : Nat) : Int), .slice A14 ys.length c14] 55)
          have kB := Blk.new w14 55 #[.int .i64 2, .int .u64 x1, .int .i64 x2, .int .i64 ((1024 * k : Nat) : Int), .slice A14 ys.length c14]
          have hgW : Grew wr _ := Grew.trans hgt2 (Grew.trans hg14 gB)
          have S0 := Stp.grew hI' hgW
          have hO14 := own_below hown14 gB
          have hFl := hI'.Flt
          have hs14 := hg14.size
          have hsB := gB.size
          have HT := take37_any ⟨2, (x1, x2), ((1024 * k : Nat) : Int), ⟨A14, c14, ys⟩⟩ _ S0.is HOk.out HX.out (own_row hO14) HY.out (by show ys.length ≤ _; omega) (by omega) (by omega)
          unfold TakeRes at HT
          simp only [Part.v] at HT
          rw [HT3.out] at HT
          have b0 := (kB.cell 0).trans (show _ = some (.int .i64 2) from rfl)
          have b1 := (kB.cell 1).trans (show _ = some (.int .u64 x1) from rfl)
          have b2 := (kB.cell 2).trans (show _ = some (.int .i64 x2) from rfl)
          have b3 := (kB.cell 3).trans (show _ = some (.int .i64 ((1024 * k : Nat) : Int)) from rfl)
          have b4 := (kB.cell 4).trans (show _ = some (.slice A14 ys.length c14) from rfl)
          have HT' := Lib.hid HT
          have HS0 := Lib.hid S0
          have HO14 := Lib.hid hO14
          have HOlt := Lib.hid (fun z hz => own_lt hown14 z hz)
          clear HT S0 hO14 hown14 hg14 gB hgW hgt2
          go_wp2_with fail
          refine HT'.out.mono ?_
          clear HT' b0 b1 b2 b3 b4
          rintro e w15 ⟨L15, rfl, S15⟩
          have hnB : ¬ L'.F r' g w14.heap.size := fun h => by have := hFl _ h; omega
          have kB2 := kB.ch S15.ch hnB
          have hO15 := own_ch HO14.out S15.ch (fun z hz h => by have h1 := HOlt.out z hz; have h2 := hFl _ h; omega)
          have S015 := HS0.out.trans S15
          have hs15 := S15.ch.size
          have HT := take37_any ⟨2, (x1, x2), ((1024 * k : Nat) : Int), ⟨A14, c14, ys⟩⟩ _ S15.is HT4.out.clean.ok HX.out (own_row hO15) HY.out (by show ys.length ≤ _; omega) (by omega) (by omega)
          unfold TakeRes at HT
          simp only [Part.v] at HT
          rw [HT5.out] at HT
          simp only at HT
          have b0 := (kB2.cell 0).trans (show _ = some (.int .i64 2) from rfl)
          have b1 := (kB2.cell 1).trans (show _ = some (.int .u64 x1) from rfl)
          have b2 := (kB2.cell 2).trans (show _ = some (.int .i64 x2) from rfl)
          have b3 := (kB2.cell 3).trans (show _ = some (.int .i64 ((1024 * k : Nat) : Int)) from rfl)
          have b4 := (kB2.cell 4).trans (show _ = some (.slice A14 ys.length c14) from rfl)
          have HT' := Lib.hid HT
          have HS15 := Lib.hid S015
          clear HT S15 S015 hO15 kB kB2 HS0
          go_wp2_with fail
          refine HT'.out.mono ?_
          clear HT' b0 b1 b2 b3 b4
          rintro e w16 ⟨L16, rfl, S16⟩
          have S := HS15.out.trans S16
          have hb16 := Below.trans (B := wb.heap.size) hbi (S.below hI' hbase)
          have HSS := Lib.hid S
          clear S S16 HS15
          go_wp2_with fail
          go_roundw
          case rel => exact ⟨i + 1, M' + 2 + 2, L16, _, by omega, by go_num, HSS.out.is, HT4.out, by omega, hb16, hch.nextNew HSS.out.ch (fun z hz => .inr (hF z hz)), fun z hz => (HSS.out.fr z hz).elim (fun h => hF z h) (fun h => .inr (by omega))⟩
          case measure => simp [intOf]; omega
        · obtain rfl : i = l.length := by omega
          go_wp2_with fail
          go_roundw
          case rel => exact ⟨k + 1, M', L', r', by omega, by go_num, hI', hR.fin, by omega, hbi⟩
          case measure => simp [intOf]; omega
    · obtain rfl : k = 4 := by omega
      have hme := hMid.empty (fun p hp => (HS.out p hp).len.2.1) HD.out (by omega)
      have hD := done37_yes _ hI hok hme
      rw [clean_done HD.out hMid.clean hme] at hD
      have hltI : ¬ (4 : Int) < 4 := by omega
      clear hI hMid hok hids hml
      go_wp2_with fail
      refine hD.mono ?_
      clear hD
      rintro e w12 ⟨A12, c12, rfl, hown12, hg12⟩
      have hb12 : Below wb.heap.size wb w12 := Below.trans (B := wb.heap.size) hbr (hg12.mono hbs)
      have hs12 := hg12.size
      clear hg12 hbr
      have hr12 := own_row hown12
      have HJ := Lib.hid (fun W (hg : Grew w12 W) => (show _ ∧ _ from (HOld.out W (Below.trans (B := wb.heap.size) hb12 (hg.mono hb12.size))).2.2))
      have HFL := Lib.hid (flat_len ps)
      go_wp2_with fail
      refine wp_region_g 9 (by kernel_rfl) ?_
      refine AllC.head 0 5 (fuel := 5) (by first | exact fun h k => Grew.trans h k | exact fun h k => cls_grew h k) (grew_drew _) (by rfl) (by kernel_rfl) ?_
      simp only [List.take_succ_cons, List.take_zero, List.drop_succ_cons, List.drop_zero]
      repeat (first
        | (refine HeadC.val (by rfl) ?_
           apply Exists.intro
           refine ⟨fun w' hw' => ?_, ?_⟩
           · (have hf_0 := conv_row' (hr12.up hw' (Nat.le_refl _)) c12; (go_simp) <;> (try go_ints) <;> with_reducible rfl)
           try simp only [Act.put, List.setIfInBounds_toArray, List.set_cons_zero, List.set_cons_succ])
        | (refine HeadC.shut (by rfl) ?_
           try simp only [Act.put, List.setIfInBounds_toArray, List.set_cons_zero, List.set_cons_succ]))
      refine HeadC.nil ?_
      refine AllC.one 5 (by kernel_rfl) rfl ?_
      intro wg hg K hK
      go_simp
      have hg13 : Grew w12 wg := (grew_drew _).trans hg
      obtain ⟨j1, j2⟩ := HJ.out wg hg13
      refine (joined_any Ap cp _ ps wg j1 j2 (Nat.le_refl _) (by omega) (by rw [HFL.out]; omega)).mono ?_
      rintro e w14 ⟨A14, c14, rfl, hown14, hg14⟩
      have hg15 := Grew.trans hg13 hg14
      refine hK.out _ _ hg15 ?_
      clear hK K hg hg13 hg14 j1 j2
      try simp only [Act.put, List.setIfInBounds_toArray, List.set_cons_zero, List.set_cons_succ]
      refine AllC.one 6 (by kernel_rfl) rfl ?_
      intro wg hg K hK
      go_simp
      have q1 := conv_row' ((own_row hown14).up hg (Nat.le_refl _)) c14
      have hg16 := Grew.trans hg15 hg
      go_simp
      refine hK.out _ _ hg16 ?_
      clear hK K hg hg15 q1
      try simp only [Act.put, List.setIfInBounds_toArray, List.set_cons_zero, List.set_cons_succ]
      refine AllC.head 7 2 (fuel := 1) (by first | exact fun h k => Grew.trans h k | exact fun h k => cls_grew h k) (hg16) (by rfl) (by kernel_rfl) ?_
      simp only [List.take_succ_cons, List.take_zero, List.drop_succ_cons, List.drop_zero]
      repeat (first
        | (refine HeadC.val (by rfl) ?_
           apply Exists.intro
           refine ⟨fun w' hw' => ?_, ?_⟩
           · ((go_simp) <;> (try go_ints) <;> with_reducible rfl)
           try simp only [Act.put, List.setIfInBounds_toArray, List.set_cons_zero, List.set_cons_succ])
        | (refine HeadC.shut (by rfl) ?_
           try simp only [Act.put, List.setIfInBounds_toArray, List.set_cons_zero, List.set_cons_succ]))
      refine HeadC.nil ?_
      refine AllC.tail 9 (by rfl) (by kernel_rfl) ?_
      intro wt hwt
      simp only [List.drop_succ_cons, List.drop_zero]
      have hg17 := Grew.trans hg16 hwt
      have hbE : Below wb.heap.size wb wt := Below.trans (B := wb.heap.size) hb12 (hg17.mono hb12.size)
      clear hg16 hwt hg17
      go_wp2_with fail
      go_ret
      exact ⟨ret_bool (by simp), Below.trans (B := w.heap.size) (hgw.below (Nat.le_refl _) (fun k h => by have h2 : k = w.heap.size := h; omega)) (hbE.mono hgw.size)⟩
end Go.Proofs.Ytpoiejgoongllaa
