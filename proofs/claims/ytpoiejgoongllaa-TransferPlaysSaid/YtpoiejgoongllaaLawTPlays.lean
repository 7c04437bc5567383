/-
  stockyardlaw37.TransferPlays returns true.
-/
import Derived.Test.YtpoiejgoongllaaPlayA37
import Derived.Test.YtpoiejgoongllaaKnown37
import Derived.Deep.DeepCutAuto
namespace Go.Proofs.Ytpoiejgoongllaa
set_option linter.unusedVariables false
set_option linter.unusedSimpArgs false
set_option linter.unnecessarySimpa false
open Go.RowKit
attribute [local go_sem ↓] Go.wp_at_zero Go.wp_at_succ

/-- a chunk out of some, right or wrong -/
theorem some_factP {ps : List Part} (hS : Pcs37 ps) {q : ChZ} (h : q ∈ rightC ps ∨ WrongC (rightC ps) q) : WfI q.id ∧ Byt q.p.zs ∧ q.p.zs.length ≤ 4096 := by
  have key : ∀ c ∈ rightC ps, WfI c.id ∧ Byt c.p.zs ∧ c.p.zs.length ≤ 2049 := fun c hc => by
    unfold rightC at hc
    obtain ⟨p, hp, rfl⟩ := List.mem_map.1 hc
    exact ⟨pcs_wf hS _ (by unfold idsOf; exact List.mem_map.2 ⟨p, hp, rfl⟩), (hS p hp).len.2.2, (hS p hp).len.2.1⟩
  rcases h with h | ⟨c, hc, b, hb, h2, h3⟩
  · obtain ⟨a, b, c⟩ := key q h
    exact ⟨a, b, by omega⟩
  · obtain ⟨k1, k2, k3⟩ := key c hc
    refine ⟨by rw [h2]; exact k1, fun z hz => ?_, by rw [h3, List.length_cons, List.length_drop]; omega⟩
    rw [h3] at hz
    rcases List.mem_cons.1 hz with rfl | hz
    · omega
    · exact k2 z (List.mem_of_mem_drop hz)
set_option maxRecDepth 100000 in
set_option maxHeartbeats 16000000 in
theorem lawTPlays_any (A : Option Addr) (cap : Nat) (ls : List Int) (A1 : Option Addr) (cp1 : Nat) (raw : List Pk) (most : Int) (w : World) (hr : Row w w.heap.size A (ls.map (.int .i64))) (hz : ∀ z ∈ ls, -9223372036854775808 ≤ z ∧ z ≤ 9223372036854775807) (hm : ls.length ≤ 9223372036854775807)
    (hr1 : Row w w.heap.size A1 (pksC raw)) (hg1 : ∀ x ∈ raw, WfI x.id ∧ Byt x.p.zs ∧ Row w w.heap.size x.p.A (x.p.zs.map (.int .u8)) ∧ x.p.zs.length ≤ 9223372036854775807) (hn1 : raw.length * 56 ≤ 140737488351232) :
    Calls Try.prog 6 #[.slice A ls.length cap, .slice A1 raw.length cp1, .int .i64 most] w fun e w' => e = .returned (.bool true) ∧ Below w.heap.size w w' := by
  have hT := Tp.new (cap := cap) hr (Nat.le_refl _) hz hm
  have g0 := grew_alloc w (.cells #[.slice A ls.length cap, .int .i64 0] 25)
  have hch0 : Ch (At w.heap.size) w (w.alloc (.cells #[.slice A ls.length cap, .int .i64 0] 25)) := Ch.of_below g0
  have HR1 := Lib.hid hr1
  have HGr := Lib.hid hg1
  have HN1 := Lib.hid hn1
  clear hz g0 hr hr1 hg1 hn1
  go_enter Try.func6, Try.ntmps6
  go_wp2_with fail
  generalize w.alloc (.cells #[.slice A ls.length cap, .int .i64 0] 25) = w1 at *
  refine (pieces37_any _ _ _ 5 _ hT (by omega) (by omega)).mono ?_
  rintro e w2 ⟨Ap, cp, ps, rfl, hpl, hS, hownp, hTx, hT2, hch, hcaps⟩
  have hb2 : Grew w w2 := (hch0.trans hch).below (Nat.le_refl _) (fun i hi => by rw [hi]; exact Nat.le_refl _)
  have htl0 := hT.lt
  have h12 := hch.size
  clear hT hch hch0
  have HS := Lib.hid hS
  have HCaps := Lib.hid hcaps
  have HPm := Lib.hid (pcs_pm hS)
  clear hS hcaps
  go_wp2_with fail
  refine (right37_any Ap cp ps w2 (own_row hownp) hTx.lie HPm.out (by omega)).mono ?_
  rintro e w4 ⟨A4, c4, rfl, hown4, hb⟩
  have hg4 := Grew.trans hb2 hb
  replace hTx := hTx.of hb
  replace hT2 := hT2.of hb
  have h24 := hb.size
  clear hb hb2 hownp
  have htot := pcs_tot HS.out
  have htb : totP ps ≤ 1073741824 := by omega
  go_wp2_with fail
  refine (bytes37_any A4 c4 ps w4 (own_row hown4) (by omega)).mono ?_
  rintro e w3 ⟨A9, c9, rfl, hown9, hb⟩
  have hg3 := Grew.trans hg4 hb
  replace hown4 := own_below hown4 hb
  replace hTx := hTx.of hb
  replace hT2 := hT2.of hb
  have h43 := hb.size
  clear hb hg4
  go_wp2_with fail
  refine (refOf25_any A9 c9 _ _ ps w3 hown9 hTx (fun p hp => (HPm.out p hp).1) (by omega) htb).mono ?_
  rintro e w5 ⟨A5, c5, rfl, hown5, hb⟩
  rw [totP_of]
  have hM := Blk.new w5 33 #[.int .i64 (totP ps : Nat), .slice A5 ps.length c5]
  have gM := grew_alloc w5 (.cells #[.int .i64 (totP ps : Nat), .slice A5 ps.length c5] 33)
  have hgb := Grew.trans hb gM
  have hg6 := Grew.trans hg3 hgb
  replace hown4 := own_below hown4 hgb
  replace hown5 := own_below hown5 gM
  replace hTx := hTx.of hgb
  replace hT2 := hT2.of hgb
  have h35 := hb.size
  have hgt : w.heap.size < w5.heap.size := by omega
  clear hb gM hgb hg3 hown9
  go_wp2_with fail
  generalize w5.alloc (.cells #[.int .i64 (totP ps : Nat), .slice A5 ps.length c5] 33) = w6 at *
  generalize w5.heap.size = gm at *
  have hl7 : ¬ At w.heap.size gm := fun h => by have h2 : gm = w.heap.size := h; omega
  have HNB := Lib.hid (tape_noBytes' hT2)
  have hgm := hM.lt
  have h26 : w2.heap.size ≤ w6.heap.size := by omega
  have HS1 := some37_yes w.heap.size w.heap.size _ w1.heap.size A4 c4 (rightC ps) w6 hT2 (by rw [rightC_length]; exact own_mono hown4 h12) (by rw [rightC_length]; omega) (by omega)
    (fun c hc => by
      unfold rightC at hc
      obtain ⟨p, hp, rfl⟩ := List.mem_map.1 hc
      have := (HS.out p hp).len
      exact ⟨hTx p hp, this.1, HCaps.out p hp, by have := this.2.1; show p.zs.length ≤ _; omega⟩) (by omega)
  unfold SomeWRes at HS1
  rw [rightC_length] at HS1
  refine HS1.mono ?_
  clear HS1
  rintro e w7 ⟨A7, c7, qs, rfl, hql, hqm, hown7, hq7, hT7, hch7⟩
  have hne7 : ∀ {base : Nat} {e : TypeId} {size n : Nat} {v : Value} {xs : List Value}, w6.ownsRow base e size v n xs → w.heap.size < base → w7.ownsRow base e size v n xs := fun ho hb => own_ch ho hch7 (fun i hi h => by have := own_lt ho i hi; have h' : i = w.heap.size := h; omega)
  replace hown4 := hne7 hown4 (by omega)
  replace hown5 := hne7 hown5 (by omega)
  replace hM := hM.ch hch7 hl7
  replace hTx : Txs w7 w1.heap.size ps := fun p hp => (hTx p hp).ch hch7 HNB.out
  have HG7 : Hid (Grew w w7) := Lib.hid (((Ch.of_below hg6).trans hch7).below (Nat.le_refl _) (fun i hi => by rw [hi]; exact Nat.le_refl _))
  have h67 := hch7.size
  have HQ := Lib.hid (fun q hq => some_factP HS.out (hqm q hq))
  have HIn7 : Hid (ChsIn w7 qs) := Lib.hid (fun q hq => ⟨(hq7 q hq).1.row, (hq7 q hq).2, by have := (HQ.out q hq).2.2; omega⟩)
  have HQT7 := Lib.hid hq7
  clear hne7 HNB hT2 hch7 hg6 hqm hq7
  go_wp2_with fail
  refine (tapeNext_any _ _ _ 8 _ hT7 (by omega) (by omega)).mono ?_
  rintro e w8 ⟨x8, rfl, hx8, hT8, hch8⟩
  have hne8 : ∀ {base : Nat} {e : TypeId} {size n : Nat} {v : Value} {xs : List Value}, w7.ownsRow base e size v n xs → w.heap.size < base → w8.ownsRow base e size v n xs := fun ho hb => own_ch ho hch8 (fun i hi h => by have := own_lt ho i hi; have h' : i = w.heap.size := h; omega)
  replace hown4 := hne8 hown4 (by omega)
  replace hown5 := hne8 hown5 (by omega)
  replace hown7 := hne8 hown7 (by omega)
  replace hM := hM.ch hch8 hl7
  have HNB8 := Lib.hid (tape_noBytes' hT7)
  replace hTx : Txs w8 w1.heap.size ps := fun p hp => (hTx p hp).ch hch8 HNB8.out
  have HQT : Hid (∀ q ∈ qs, Tx w8 w1.heap.size q.p ∧ q.p.zs.length ≤ q.p.cap) := Lib.hid (fun q hq => ⟨(HQT7.out q hq).1.ch hch8 HNB8.out, (HQT7.out q hq).2⟩)
  have HG8 : Hid (Grew w w8) := Lib.hid (((Ch.of_below HG7.out).trans hch8).below (Nat.le_refl _) (fun i hi => by rw [hi]; exact Nat.le_refl _))
  have h78 := hch8.size
  clear hne8 hT7 hch8 HG7 HIn7 HQT7 HNB8 hx8
  have m0 := (hM.cell 0).trans (show _ = some (.int .i64 (totP ps : Nat)) from rfl)
  have m1 := (hM.cell 1).trans (show _ = some (.slice A5 ps.length c5) from rfl)
  have f0 := hM.frozen 0
  have hb1 : totP ps + 1 ≤ 1073741825 := by omega
  have hb2 : totP ps ≤ 1073741825 := by omega
  have HAd : Hid (IntKind.i64.wrap ((totP ps : Int) + 1) = (totP ps : Int) + 1 ∧ wrap64 ((totP ps : Int) + 1) = (totP ps : Int) + 1) := Lib.hid ⟨Go.IntWalk.i64_in _ (by omega), Go.IntWalk.wrap64_in _ (by omega)⟩
  have HM8 := Lib.hid hM
  go_upto_if 33 with (fail)
  go_cut [] (fun wx => ∃ n : Nat, n ≤ 1073741825 ∧ Hid (Blk wx gm 33 #[.int .i64 n, .slice A5 ps.length c5]) ∧ Hid (Ch (At gm) w8 wx))
  case first =>
    by_cases hx0 : x8 = 0
    · have hxb : ((x8 : Int) == 0) = true := by simp [hx0]
      have H1 : Hid (Blk (w8.setCell ⟨gm, 0, none⟩ (.int .i64 ((totP ps : Int) + 1))) gm 33 #[.int .i64 (totP ps + 1 : Nat), .slice A5 ps.length c5]) := Lib.hid (HM8.out.set_ 0 _)
      have H2 : Hid (Ch (At gm) w8 (w8.setCell ⟨gm, 0, none⟩ (.int .i64 ((totP ps : Int) + 1)))) := Lib.hid ((Ch.refl (At gm) w8).set_at 0 _)
      obtain ⟨hadd, hadd2⟩ := HAd.out
      clear hM
      go_wp2_with fail
      go_meet
      exact ⟨totP ps + 1, hb1, H1, H2⟩
    · have hxb : ((x8 : Int) == 0) = false := by simp; omega
      have H2 : Hid (Ch (At gm) w8 w8) := Lib.hid (Ch.refl _ _)
      clear hM
      go_wp2_with fail
      go_meet
      exact ⟨totP ps, hb2, HM8, H2⟩
  case rest =>
    obtain ⟨n, hnb, HMn, HCm⟩ := hcut
    have HKM := HM8
    clear m0 m1 f0 hb1 hb2 HAd HM8 hM
    have hneC : ∀ {base : Nat} {e : TypeId} {size n : Nat} {v : Value} {xs : List Value}, w8.ownsRow base e size v n xs → e ≠ 33 → wc.ownsRow base e size v n xs := fun ho hb => own_ch ho HCm.out (fun i hi h => own_blk_ne ho (HKM.out) hb (by have h' : i = gm := h; rw [← h']; exact hi))
    replace hown4 := hneC hown4 (by decide)
    replace hown5 := hneC hown5 (by decide)
    replace hown7 := hneC hown7 (by decide)
    have HNBm := Lib.hid (blk_noBytes HKM.out (by decide))
    replace hTx : Txs wc w1.heap.size ps := fun p hp => (hTx p hp).ch HCm.out HNBm.out
    have HIn : Hid (ChsIn wc qs) := Lib.hid (fun q hq => ⟨((HQT.out q hq).1.ch HCm.out HNBm.out).row, (HQT.out q hq).2, by have := (HQ.out q hq).2.2; omega⟩)
    have hT9 := hT8.ch HCm.out (fun h => hl7 h.symm) (fun i hi => by have h : i = gm := hi; omega)
    have HG9 : Hid (Grew w wc) := Lib.hid (((Ch.of_below HG8.out).trans (HCm.out.mono (T := fun i => w.heap.size ≤ i) (fun i _ h => by have h' : i = gm := h; omega))).below (Nat.le_refl _) (fun i hi => hi))
    have h89 := HCm.out.size
    have m0 := (HMn.out.cell 0).trans (show _ = some (.int .i64 n) from rfl)
    have m1 := (HMn.out.cell 1).trans (show _ = some (.slice A5 ps.length c5) from rfl)
    clear hneC HG8 HNBm hT8 HCm HQT HKM
    have HWf := Lib.hid (pcs_wf HS.out)
    have hil := idsOf_length ps
    have HRv := receive37_any n A5 c5 (idsOf ps) A7 c7 qs wc (by have h9 := own_row hown5; exact h9) HWf.out (by rw [hil]; omega) (own_row hown7) HIn.out (fun q hq => ⟨(HQ.out q hq).1, (HQ.out q hq).2.1⟩) (by omega)
    have HRf := fun W (hg : Grew wc W) => refReceive37_any n A5 c5 (idsOf ps) A7 c7 qs W ((own_row hown5).up hg (Nat.le_refl _) |>.more hg.size) (by rw [hil]; omega) ((own_row hown7).up hg (Nat.le_refl _) |>.more hg.size) (fun q hq => ((HIn.out.up hg) q hq).1) (fun q hq => ⟨(HQ.out q hq).2.1, by have := (HQ.out q hq).2.2; omega⟩) (by omega)
    unfold RecvRes at HRv
    unfold RefRecvRes at HRf
    rw [hil] at HRv HRf
    have HRF := Lib.hid HRf
    clear HRf hil
    go_wp2_with fail
    refine HRv.mono ?_
    clear HRv
    rintro e w10 ⟨hg10, hif⟩
    replace m0 := cell_up hg10 m0
    replace m1 := cell_up hg10 m1
    by_cases hz : chkM (n : Int) (idsOf ps) = 0
    · rw [if_pos hz] at hif
      obtain ⟨g, Lr0, rfl, hI⟩ := hif
      have HZ := Lib.hid hz
      clear hz
      have HRF2 := Lib.hid (HRF.out w10 hg10)
      have HI0 := Lib.hid hI
      have HG10 := Lib.hid hg10
      clear hg10 hI
      go_wp2_with fail
      refine HRF2.out.mono ?_
      clear HRF HRF2 m0 m1
      rintro e w11 ⟨hg11, hif⟩
      rw [if_pos HZ.out] at hif
      obtain ⟨L0, R0, rfl, hI0, hF0, hA0⟩ := hif
      have hPl : PlSt wc (w11.alloc (.cells (rfB5 L0 R0) 71)) w.heap.size w.heap.size w11.heap.size wc.heap.size g (0 + 1 + 3 * 5 + 2 * ps.length + 1) qs.length Lr0 (recvR n (idsOf ps) qs) L0 R0 (recvR n (idsOf ps) qs) :=
        PlSt.init hT9 (Nat.le_refl _) HG10.out HI0.out (recvR_ok HZ.out HWf.out (fun q hq => (HQ.out q hq).2.1)) (recvIn_recvR _ _ _) hg11 hI0 hF0 (hA0 _ (fun _ ad he => by
          subst he
          have h1 := own_lt hown5 ad.block rfl
          have h2 := (hown5.lt ad.block rfl).2
          exact ⟨h2, by omega⟩))
      have HAll : Hid (∀ W, Ch (At w.heap.size) wc W → W.ownsRow w1.heap.size 64 3 (.slice A4 ps.length c4) ps.length (chsC (rightC ps)) ∧ ∀ c ∈ rightC ps, Tx W w1.heap.size c.p ∧ Byt c.p.zs ∧ c.p.zs.length ≤ c.p.cap ∧ c.p.zs.length ≤ 1048576) := Lib.hid (fun W hc => ⟨own_mono (own_ch hown4 hc (fun i hi h => by have h1 := own_lt hown4 i hi; have h2 : i = w.heap.size := h; omega)) h12, fun c hcm => by
        unfold rightC at hcm
        obtain ⟨p, hp, rfl⟩ := List.mem_map.1 hcm
        have := (HS.out p hp).len
        exact ⟨(hTx p hp).ch hc (tape_noBytes' hT9), this.2.2, HCaps.out p hp, by have := this.2.1; show p.zs.length ≤ _; omega⟩⟩)
      have HBl : Hid (∀ W, Ch (At w.heap.size) wc W → Below w.heap.size w W) := Lib.hid (fun W hc => ((Ch.of_below HG9.out).trans hc).below (Nat.le_refl _) (fun i hi => by rw [hi]; exact Nat.le_refl _))
      have hwc : w.heap.size ≤ wc.heap.size := by omega
      clear hT9 hA0 hI0 hF0 HI0 HG10 hg11 hown4 hown5 hown7 hTx HIn HZ HMn HG9
      have HP0 := Lib.hid hPl
      clear hPl
      unfold rfV
      go_wp2_with fail
      obtain ⟨gW, hgW⟩ : ∃ gW, gW = w11.heap.size := ⟨_, rfl⟩
      rw [← hgW] at HP0 ⊢
      have HP1 : Hid (PlSt wc (w11.alloc (.cells #[.int .i64 R0.n, .slice L0.ai R0.ids.length L0.ci, .slice L0.ah R0.had.length L0.ch, .slice L0.ag R0.got.length L0.cg, .slice L0.ap R0.pre.length L0.cp] 71)) w.heap.size w.heap.size gW wc.heap.size g (0 + 1 + 3 * 5 + 2 * ps.length + 1) qs.length Lr0 (recvR n (idsOf ps) qs) L0 R0 (recvR n (idsOf ps) qs)) := HP0
      clear HP0 hgW
      generalize w11.alloc (.cells #[.int .i64 R0.n, .slice L0.ai R0.ids.length L0.ci, .slice L0.ah R0.had.length L0.ch, .slice L0.ag R0.got.length L0.cg, .slice L0.ap R0.pre.length L0.cp] 71) = w12 at *
      refine (known37_any w12).mono ?_
      rintro e w13 ⟨rfl, hb13⟩
      have HP2 := Lib.hid (HP1.out.of hb13)
      clear hb13 HP1
      go_wp2_with fail
      refine (tapeNext_any _ _ _ 6 _ HP2.out.tp (by omega) (by omega)).mono ?_
      rintro e w14 ⟨j0, rfl, hj0, hT14, hch14⟩
      have hj6 : j0 ≤ 5 := by omega
      have HP3 := Lib.hid (HP2.out.tape hT14 hch14)
      clear HP2 hT14 hch14 hj0
      generalize recvR n (idsOf ps) qs = r0 at *
      go_wp2_with fail
      go_loopw [15] (fun v W => ∃ (j MT MR : Nat) (Lr : RcL) (r : Rcv) (L : RfL) (R : RfR), v = .int .i64 j ∧ j ≤ 5 ∧ MT + 41 * j ≤ 10000 ∧ (j = 0 ∨ MR + 22 * j ≤ 10000) ∧ Hid (PlSt wc W w.heap.size w.heap.size gW wc.heap.size g MT MR Lr r L R r)) (fun v _ => (intOf v).toNat)
      case atStart => exact ⟨j0, _, _, Lr0, r0, L0, R0, rfl, hj6, by omega, by omega, HP3⟩
      case round =>
        clear HP3
        obtain ⟨j, MT, MR, Lr, r, L, R, rfl, hj5, hMT, hMR, HP⟩ := hrel
        have HBX := Lib.hid HP.out.box
        have HSz := Lib.hid HP.out.size
        by_cases hj1 : 1 ≤ j
        · have hjI : (0 : Int) < (j : Int) := by omega
          have b0 := (HBX.out.cell 0).trans (show _ = some (.int .i64 R.n) from rfl)
          have b1 := (HBX.out.cell 1).trans (show _ = some (.slice L.ai R.ids.length L.ci) from rfl)
          have b2 := (HBX.out.cell 2).trans (show _ = some (.slice L.ah R.had.length L.ch) from rfl)
          have b3 := (HBX.out.cell 3).trans (show _ = some (.slice L.ag R.got.length L.cg) from rfl)
          have b4 := (HBX.out.cell 4).trans (show _ = some (.slice L.ap R.pre.length L.cp) from rfl)
          have HIs := Lib.hid (fun W (hg : Grew wr W) => is37_any L R W (HP.out.rcv.of hg) HP.out.ok HP.out.rin (HP.out.ref.up hg) HP.out.rel (HP.out.rel.okC HP.out.ok HP.out.at_))
          have HAk := Lib.hid (fun m W (hg : Grew wr W) => ask37_any m W (HP.out.rcv.of hg) HP.out.ok)
          have HRa := Lib.hid (fun m W (hg : Grew wr W) => refAsk37_any L R m W (HP.out.ref.up hg) (HP.out.rel.ok HP.out.ok))
          unfold rfV at HIs HRa
          go_upto_region 16 with (fail)
          refine wp_region_g 13 (by kernel_rfl) ?_
          have hgW : Grew wr wr.drew := grew_drew _
          refine AllC.head 0 2 (fuel := 12) (by first | exact fun h k => Grew.trans h k | exact fun h k => cls_grew h k) (hgW) (by rfl) (by kernel_rfl) ?_
          simp only [List.take_succ_cons, List.take_zero, List.drop_succ_cons, List.drop_zero]
          repeat (first
            | (refine HeadC.val (by rfl) ?_
               apply Exists.intro
               refine ⟨fun w' hw' => ?_, ?_⟩
               · (have hf_0 := cell_up hw' b0; have hf_1 := cell_up hw' b1; have hf_2 := cell_up hw' b2; have hf_3 := cell_up hw' b3; have hf_4 := cell_up hw' b4; (go_simp) <;> (try go_ints) <;> with_reducible rfl)
               try simp only [Act.put, List.setIfInBounds_toArray, List.set_cons_zero, List.set_cons_succ])
            | (refine HeadC.shut (by rfl) ?_
               try simp only [Act.put, List.setIfInBounds_toArray, List.set_cons_zero, List.set_cons_succ]))
          refine HeadC.nil ?_
          refine AllC.one 2 (by kernel_rfl) rfl ?_
          intro wg hg K hK
          go_simp
          replace hgW := Grew.trans hgW hg
          refine (HIs.out wg hgW).mono ?_
          rintro e w16 ⟨rfl, hg16⟩
          replace hgW := Grew.trans hgW hg16
          refine hK.out _ _ hgW ?_
          clear hK K hg hg16
          try simp only [Act.put, List.setIfInBounds_toArray, List.set_cons_zero, List.set_cons_succ]
          refine AllC.head 3 4 (fuel := 7) (by first | exact fun h k => Grew.trans h k | exact fun h k => cls_grew h k) (hgW) (by rfl) (by kernel_rfl) ?_
          simp only [List.take_succ_cons, List.take_zero, List.drop_succ_cons, List.drop_zero]
          repeat (first
            | (refine HeadC.val (by rfl) ?_
               apply Exists.intro
               refine ⟨fun w' hw' => ?_, ?_⟩
               · ((go_simp) <;> (try go_ints) <;> with_reducible rfl)
               try simp only [Act.put, List.setIfInBounds_toArray, List.set_cons_zero, List.set_cons_succ])
            | (refine HeadC.shut (by rfl) ?_
               try simp only [Act.put, List.setIfInBounds_toArray, List.set_cons_zero, List.set_cons_succ]))
          refine HeadC.nil ?_
          refine AllC.head 8 2 (fuel := 5) (by first | exact fun h k => Grew.trans h k | exact fun h k => cls_grew h k) (hgW) (by rfl) (by kernel_rfl) ?_
          simp only [List.take_succ_cons, List.take_zero, List.drop_succ_cons, List.drop_zero]
          repeat (first
            | (refine HeadC.val (by rfl) ?_
               apply Exists.intro
               refine ⟨fun w' hw' => ?_, ?_⟩
               · (have hf_0 := cell_up hw' b0; have hf_1 := cell_up hw' b1; have hf_2 := cell_up hw' b2; have hf_3 := cell_up hw' b3; have hf_4 := cell_up hw' b4; (go_simp) <;> (try go_ints) <;> with_reducible rfl)
               try simp only [Act.put, List.setIfInBounds_toArray, List.set_cons_zero, List.set_cons_succ])
            | (refine HeadC.shut (by rfl) ?_
               try simp only [Act.put, List.setIfInBounds_toArray, List.set_cons_zero, List.set_cons_succ]))
          refine HeadC.nil ?_
          refine AllC.one 7 (by kernel_rfl) rfl ?_
          intro wg hg K hK
          go_simp
          replace hgW := Grew.trans hgW hg
          refine (HAk.out most wg hgW).mono ?_
          rintro e w17 ⟨A17, c17, rfl, hown17, hg17⟩
          replace hgW := Grew.trans hgW hg17
          refine hK.out _ _ hgW ?_
          clear hK K hg hg17
          try simp only [Act.put, List.setIfInBounds_toArray, List.set_cons_zero, List.set_cons_succ]
          refine AllC.one 10 (by kernel_rfl) rfl ?_
          intro wg hg K hK
          go_simp
          replace hgW := Grew.trans hgW hg
          replace hown17 := own_below hown17 hg
          refine (HRa.out most wg hgW).mono ?_
          rintro e w18 ⟨m, A18, c18, rfl, hm18, hd18, hown18, hg18⟩
          replace hgW := Grew.trans hgW hg18
          replace hown17 := own_below hown17 hg18
          refine hK.out _ _ hgW ?_
          clear hK K hg hg18
          try simp only [Act.put, List.setIfInBounds_toArray, List.set_cons_zero, List.set_cons_succ]
          refine AllC.one 11 (by kernel_rfl) rfl ?_
          intro wg hg K hK
          go_simp
          replace hgW := Grew.trans hgW hg
          have HS9 := same37_any A17 A18 c17 c18 (askP r (askL r most)) (rfAsk R m) wg (own_row (own_below hown17 hg)) (own_row (own_below hown18 hg)) (fun x hx => by unfold askP at hx; obtain ⟨y, _, rfl⟩ := List.mem_map.1 hx; exact Row.nil) (fun x hx => by unfold rfAsk at hx; obtain ⟨y, _, rfl⟩ := List.mem_map.1 hx; exact Row.nil) (by rw [askP_length, askL_length]; have := HP.out.ok.len.2.2.1; unfold askN; omega) (HP.out.rel.ask_ HP.out.ok hm18 hd18)
          rw [rfAsk_length R m hm18] at HS9
          refine HS9.mono ?_
          clear HS9
          rintro e w19 ⟨rfl, hg19⟩
          replace hgW := Grew.trans hgW hg19
          refine hK.out _ _ hgW ?_
          clear hK K hg hg19 hown17 hown18 hm18 hd18
          try simp only [Act.put, List.setIfInBounds_toArray, List.set_cons_zero, List.set_cons_succ]
          refine AllC.head 12 1 (fuel := 1) (by first | exact fun h k => Grew.trans h k | exact fun h k => cls_grew h k) (hgW) (by rfl) (by kernel_rfl) ?_
          simp only [List.take_succ_cons, List.take_zero, List.drop_succ_cons, List.drop_zero]
          repeat (first
            | (refine HeadC.val (by rfl) ?_
               apply Exists.intro
               refine ⟨fun w' hw' => ?_, ?_⟩
               · ((go_simp) <;> (try go_ints) <;> with_reducible rfl)
               try simp only [Act.put, List.setIfInBounds_toArray, List.set_cons_zero, List.set_cons_succ])
            | (refine HeadC.shut (by rfl) ?_
               try simp only [Act.put, List.setIfInBounds_toArray, List.set_cons_zero, List.set_cons_succ]))
          refine HeadC.nil ?_
          refine AllC.tail 13 (by rfl) (by kernel_rfl) ?_
          intro wt hwt
          simp only [List.drop_succ_cons, List.drop_zero]
          have HPa := Lib.hid (HP.out.of (Grew.trans hgW hwt))
          obtain ⟨wP, hwP⟩ : ∃ wP, wP = wt := ⟨_, rfl⟩
          subst hwP
          clear hgW hwt HIs HAk HRa HP HBX HSz b0 b1 b2 b3 b4
          have HBX := Lib.hid HPa.out.box
          have b0 := (HBX.out.cell 0).trans (show _ = some (.int .i64 R.n) from rfl)
          have b1 := (HBX.out.cell 1).trans (show _ = some (.slice L.ai R.ids.length L.ci) from rfl)
          have b2 := (HBX.out.cell 2).trans (show _ = some (.slice L.ah R.had.length L.ch) from rfl)
          have b3 := (HBX.out.cell 3).trans (show _ = some (.slice L.ag R.got.length L.cg) from rfl)
          have b4 := (HBX.out.cell 4).trans (show _ = some (.slice L.ap R.pre.length L.cp) from rfl)
          have HPk := packets37_any w.heap.size w.heap.size MT w1.heap.size L R A4 c4 (rightC ps) wP HPa.out.tp HPa.out.ref (HPa.out.rel.ok HPa.out.ok) HPa.out.wf (by omega) (by rw [rightC_length]; exact (HAll.out wP HPa.out.ch).1) (by rw [rightC_length]; omega) (HAll.out wP HPa.out.ch).2 (by have := HPa.out.size.1; omega)
          rw [rightC_length] at HPk
          unfold rfV at HPk
          have HPk := Lib.hid HPk
          go_wp2_with fail
          refine HPk.out.mono ?_
          clear HPk b0 b1 b2 b3 b4 HBX
          rintro e w20 ⟨A20, c20, ql, rfl, hPS, hql11, hT20, hch20⟩
          have HPb := Lib.hid (HPa.out.tape hT20 hch20)
          have hbp : w.heap.size < wP.heap.size ∧ gW < wP.heap.size ∧ wc.heap.size ≤ wP.heap.size := by have h1 := HPa.out.size; omega
          have HFb : Hid (∀ q, Lr.F r g q → q < wP.heap.size) := Lib.hid (fun q hq => HPa.out.rcv.Flt q hq)
          have HPS := Lib.hid hPS
          clear hPS
          by_cases hj2 : j = 1
          · have hjb : ((j : Int) == 1) = true := by simp; omega
            have hj3 : (j : Int) = 1 := by omega
            have hrr := HR1.out.below (HBl.out w20 HPb.out.ch) (Nat.le_refl _)
            have hrq := HPS.out.row
            have hn1 := HN1.out
            have HN2 : Hid ((ql.length + raw.length) * 56 ≤ 140737488355328) := Lib.hid (by omega)
            have hs20 : wP.heap.size ≤ w20.heap.size := hch20.size
            clear hn1
            go_wp2_with (at_builtin; go_loud (refine wpList_append_row rfl (.tmp 92) (.tmp 93) rfl wP.heap.size elem_pk (by rfl) hrq _ (by rfl) (pksC_len raw) hrr (ones_pks raw) (by have := HN2.out; unfold maxLen; omega) HN2.out hs20 ?_); intro A8 c8 w8 hown8 hg8 _)
            have hch8 : Ch (At w.heap.size) wP w8 := hch20.nextNew (Ch.of_own hg8) (fun q hq => .inl (own_lt hrq q hq))
            have HPc := Lib.hid (HPa.out.tape (tape_own hT20 hrq hg8 (by decide) (by omega)) hch8)
            have HLr : Hid (w8.ownsRow wP.heap.size 55 5 (.slice A8 (ql ++ raw).length c8) (ql ++ raw).length (pksC (ql ++ raw))) := Lib.hid (by rw [List.length_append, pksC_append]; exact hown8)
            have HLx : Hid (∀ x ∈ ql ++ raw, WfI x.id ∧ Byt x.p.zs ∧ x.p.zs.length ≤ 9223372036854775807 ∧ ∀ W, Ch (fun q => q < wP.heap.size) w8 W → Below w.heap.size w W → Row W W.heap.size x.p.A (x.p.zs.map (.int .u8))) := Lib.hid (fun x hx => by
              rcases List.mem_append.1 hx with hx | hx
              · exact ⟨(HPS.out.ok x hx).wf, (HPS.out.ok x hx).byt, by have := (HPS.out.ok x hx).len; omega, fun W hc _ => (((HPS.out.tx x hx).ch (Ch.of_own hg8) HPS.out.noB).chB hc (fun i hi => .inr (fun ad _ h1 h2 => by omega))).row⟩
              · obtain ⟨q1, q2, q3, q4⟩ := HGr.out x hx
                exact ⟨q1, q2, q4, fun W _ hb => (q3.below hb (Nat.le_refl _)).more hb.size⟩)
            have hll : j = 1 ∨ MR + 2 * (ql ++ raw).length + 22 * (j - 1) ≤ 10000 := .inl hj2
            have hlb : (ql ++ raw).length ≤ 10000000000000 := by rw [List.length_append]; have := HN1.out; omega
            have hMb : MR ≤ 10000 := by omega
            have e9 : ql.length + raw.length = (ql ++ raw).length := by rw [List.length_append]
            rw [e9]
            clear hT20 hch20 HPS HPa hown8 hg8 hch8 hrr hrq HN2 HPb e9 hs20
            have HPb := HPc
            clear HPc
            generalize ql ++ raw = l at *
            have hwj : wrap64 ((j : Int) - 1) = ((j - 1 : Nat) : Int) := by rw [Go.IntWalk.wrap64_in _ (by omega)]; omega
            have HWJ := Lib.hid hwj
            clear hwj
            go_wp2_with fail
            go_loopw [17] (fun v W => ∃ (i MR2 : Nat) (Lr2 : RcL) (r2 : Rcv) (L2 : RfL) (R2 : RfR), v = .int .i64 i ∧ i ≤ l.length ∧ MR2 ≤ MR + 2 * i ∧ Hid (PlSt wc W w.heap.size w.heap.size gW wc.heap.size g (MT + 40) MR2 Lr2 r2 L2 R2 r2) ∧ Hid (∀ q, Lr2.F r2 g q → q < wP.heap.size ∨ w8.heap.size ≤ q) ∧ Hid (Ch (fun q => q < wP.heap.size) w8 W)) (fun v _ => l.length - (intOf v).toNat)
            case atStart => exact ⟨0, MR, Lr, r, L, R, rfl, Nat.zero_le _, by omega, HPb, Lib.hid (fun q hq => .inl (HFb.out q hq)), Lib.hid (Ch.refl _ _)⟩
            case round =>
              clear HPb HFb
              obtain ⟨i, MR2, Lr2, r2, L2, R2, rfl, hi, hMR2, HPi, HFi, HCl⟩ := hrel
              by_cases hlt : i < l.length
              · have hrow := own_row (own_ch HLr.out HCl.out (fun q hq h => by have := own_lt HLr.out q hq; omega))
                obtain ⟨ga, rfl, hga1, hga2⟩ := own_some HLr.out (Nat.lt_of_le_of_lt (Nat.zero_le _) hlt)
                obtain ⟨d0, d1, d2, d3, d4⟩ := pks_lit hrow hlt
                have HX := Lib.hid (HLx.out _ (List.getElem_mem hlt))
                have HLt := Lib.hid hlt
                generalize hx : l[i] = x at d0 d1 d2 d3 d4 HX
                have HXe := Lib.hid hx
                clear hx hrow
                obtain ⟨xk, ⟨x1, x2⟩, xf, ⟨xA, xc, xz⟩⟩ := x
                simp only at d0 d1 d2 d3 d4
                have HBX2 := Lib.hid HPi.out.box
                have b0 := (HBX2.out.cell 0).trans (show _ = some (.int .i64 R2.n) from rfl)
                have b1 := (HBX2.out.cell 1).trans (show _ = some (.slice L2.ai R2.ids.length L2.ci) from rfl)
                have b2 := (HBX2.out.cell 2).trans (show _ = some (.slice L2.ah R2.had.length L2.ch) from rfl)
                have b3 := (HBX2.out.cell 3).trans (show _ = some (.slice L2.ag R2.got.length L2.cg) from rfl)
                have b4 := (HBX2.out.cell 4).trans (show _ = some (.slice L2.ap R2.pre.length L2.cp) from rfl)
                have HRX := Lib.hid (fun W (hg : Grew wr W) => (((HX.out.2.2.2 wr HCl.out (HBl.out _ HPi.out.ch)).up hg (Nat.le_refl _)).more hg.size : Row W W.heap.size xA (xz.map (.int .u8))))
                have hnA : ¬ At gW ga := fun h => by have h2 : ga = gW := h; omega
                have hsB := HPi.out.size
                go_upto_region 25 with (fail)
                refine wp_region_cls (Ch (At gW) wr) 10 (by kernel_rfl) ?_
                have hc0 := (Ch.refl (At gW) wr).drew
                refine AllC.head 1 4 (fuel := 7) (by first | exact fun h k => Grew.trans h k | exact fun h k => cls_grew h k) (hc0) (by rfl) (by kernel_rfl) ?_
                simp only [List.take_succ_cons, List.take_zero, List.drop_succ_cons, List.drop_zero]
                repeat (first
                  | (refine HeadC.val (by rfl) ?_
                     apply Exists.intro
                     refine ⟨fun w' hw' => ?_, ?_⟩
                     · (have hf_0 := hw'.cell d0 hnA; have hf_1 := hw'.cell d1 hnA; have hf_2 := hw'.cell d2 hnA; have hf_3 := hw'.cell d3 hnA; have hf_4 := hw'.cell d4 hnA; (go_simp) <;> (try go_ints) <;> with_reducible rfl)
                     try simp only [Act.put, List.setIfInBounds_toArray, List.set_cons_zero, List.set_cons_succ])
                  | (refine HeadC.shut (by rfl) ?_
                     try simp only [Act.put, List.setIfInBounds_toArray, List.set_cons_zero, List.set_cons_succ]))
                refine HeadC.nil ?_
                refine AllC.one 0 (by kernel_rfl) rfl ?_
                intro wg hg K hK
                have hg1 : Grew wr wg := (grew_drew wr).trans hg
                have e0 := cell_up hg1 b0
                have e1 := cell_up hg1 b1
                have e2 := cell_up hg1 b2
                have e3 := cell_up hg1 b3
                have e4 := cell_up hg1 b4
                go_simp
                refine hK.out _ _ (Ch.of_below hg1) ?_
                clear hK K hg e0 e1 e2 e3 e4 b0 b1 b2 b3 b4 hc0 HBX2
                try simp only [Act.put, List.setIfInBounds_toArray, List.set_cons_zero, List.set_cons_succ]
                refine AllC.one 5 (by kernel_rfl) rfl ?_
                intro wg hg K hK
                go_simp
                have hg2 := Grew.trans hg1 hg
                have HTk := refTake37_any L2 R2 r2 ⟨xk, (x1, x2), xf, ⟨xA, xc, xz⟩⟩ wg (HPi.out.ref.up hg2) HPi.out.rel HPi.out.ok (HRX.out wg hg2) HX.out.2.1 HX.out.2.2.1
                unfold rfV RefTakeRes at HTk
                simp only [Part.v] at HTk
                refine HTk.mono ?_
                clear HTk
                rintro e w22 ⟨L3, R3, rfl, hI3, hF3, hg3, hA3⟩
                have hA3' : ∀ D, RfAt D L2 R2 → RfAt (DnD D wr.heap.size) L3 R3 := fun D hD => (hA3 D hD).mono (fun q hq => hq.imp id (fun h => Nat.le_trans hg2.size h))
                have hg4 := Grew.trans hg2 hg3
                refine hK.out _ _ (Ch.of_below hg4) ?_
                clear hK K hg hg1 hg2 hg3 hA3
                unfold rfV
                try simp only [Act.put, List.setIfInBounds_toArray, List.set_cons_zero, List.set_cons_succ]
                have hc4 : Ch (At gW) wr w22 := Ch.of_below hg4
                refine AllC.head 6 3 (fuel := 2) (by first | exact fun h k => Grew.trans h k | exact fun h k => cls_grew h k) (hc4) (by rfl) (by kernel_rfl) ?_
                simp only [List.take_succ_cons, List.take_zero, List.drop_succ_cons, List.drop_zero]
                repeat (first
                  | (refine HeadC.val (by rfl) ?_
                     apply Exists.intro
                     refine ⟨fun w' hw' => ?_, ?_⟩
                     · (have hf_0 := hc4; (go_simp) <;> (try go_ints) <;> with_reducible rfl)
                     try simp only [Act.put, List.setIfInBounds_toArray, List.set_cons_zero, List.set_cons_succ])
                  | (refine HeadC.shut (by rfl) ?_
                     try simp only [Act.put, List.setIfInBounds_toArray, List.set_cons_zero, List.set_cons_succ]))
                refine HeadC.nil ?_
                refine AllC.one 9 (by kernel_rfl) rfl ?_
                intro wg hg K hK
                have hg5 := Grew.trans hg4 hg
                have hput := HPi.out.put hg5 (hI3.up hg) hF3 (HPi.out.ok.take xk (x1, x2) xf xz HX.out.2.1) hA3'
                have hb5 := (HPi.out.of hg5).box
                have y0 := hb5.frozen 0
                have y1 := hb5.frozen 1
                have y2 := hb5.frozen 2
                have y3 := hb5.frozen 3
                have y4 := hb5.frozen 4
                have e0 := (hb5.cell 0).trans (show _ = some (.int .i64 R2.n) from rfl)
                have e1 := (hb5.cell 1).trans (show _ = some (.slice L2.ai R2.ids.length L2.ci) from rfl)
                have e2 := (hb5.cell 2).trans (show _ = some (.slice L2.ah R2.had.length L2.ch) from rfl)
                have e3 := (hb5.cell 3).trans (show _ = some (.slice L2.ag R2.got.length L2.cg) from rfl)
                have e4 := (hb5.cell 4).trans (show _ = some (.slice L2.ap R2.pre.length L2.cp) from rfl)
                have HPp := Lib.hid hput.1
                have HCp := Lib.hid hput.2
                clear hput hb5
                go_simp
                refine hK.out _ _ ((Ch.of_below hg5).trans HCp.out) ?_
                clear hK K hc4 hI3 hF3 hA3' y0 y1 y2 y3 y4 e0 e1 e2 e3 e4
                try simp only [Act.put, List.setIfInBounds_toArray, List.set_cons_zero, List.set_cons_succ]
                refine AllC.tail 10 (by rfl) (by kernel_rfl) ?_
                intro wt hwt
                simp only [List.drop_succ_cons, List.drop_zero]
                have HPj := Lib.hid (HPp.out.of hwt)
                have HCl2 : Hid (Ch (fun q => q < wP.heap.size) w8 _) := Lib.hid (((HCl.out.next hg5).trans (HCp.out.mono (fun q _ h => by have h2 : q = gW := h; omega))).next hwt)
                clear HPp HCp hwt hg5 hg4 hg d0 d1 d2 d3 d4 hnA
                obtain ⟨d0, d1, d2, d3, d4⟩ := pks_lit (own_row (own_ch HLr.out HCl2.out (fun q hq h => by have := own_lt HLr.out q hq; omega))) HLt.out
                have hx := HXe.out
                generalize l[i] = x' at d0 d1 d2 d3 d4 hx
                subst hx
                simp only at d0 d1 d2 d3 d4
                have HTb := take37_big ⟨xk, (x1, x2), xf, ⟨xA, xc, xz⟩⟩ _ HPj.out.rcv HPj.out.ok HX.out.1 (HX.out.2.2.2 _ HCl2.out (HBl.out _ HPj.out.ch)) HX.out.2.1 HX.out.2.2.1 (by omega) HPj.out.size.2.1
                unfold TakeRes at HTb
                simp only [Part.v] at HTb
                have HTb := Lib.hid HTb
                go_wp2_with fail
                refine HTb.out.mono ?_
                clear HTb d0 d1 d2 d3 d4
                rintro e w24 ⟨Lr4, rfl, hst⟩
                have HPl := Lib.hid ((HPj.out.take hst (HPj.out.ok.take xk (x1, x2) xf xz HX.out.2.1) (HPj.out.rin.take HPj.out.ok xk (x1, x2) xf xz)))
                have HCl3 : Hid (Ch (fun q => q < wP.heap.size) w8 w24) := Lib.hid (HCl2.out.nextNew hst.ch (fun q hq => (HFi.out q hq).symm))
                have HF3 : Hid (∀ q, Lr4.F (takeR r2 xk (x1, x2) xf xz).1 g q → q < wP.heap.size ∨ w8.heap.size ≤ q) := Lib.hid (fun q hq => (hst.fr q hq).elim (fun h => HFi.out q h) (fun h => .inr (Nat.le_trans HCl2.out.size h)))
                clear hst HPj HCl2 HFi HCl HPi
                generalize (takeR r2 xk (x1, x2) xf xz).2 = bb at *
                generalize (takeR r2 xk (x1, x2) xf xz).1 = r4 at *
                cases bb
                all_goals
                  go_wp2_with fail
                  go_roundw
                  case rel => exact ⟨i + 1, MR2 + 2, Lr4, r4, L3, R3, by go_num, by omega, by omega, HPl, HF3, HCl3⟩
                  case measure => simp [intOf]; omega
              · obtain rfl : i = l.length := by omega
                have hwj := HWJ.out
                go_wp2_with fail
                go_roundw
                case rel => exact ⟨j - 1, MT + 40, MR2, Lr2, r2, L2, R2, by first | rfl | go_num, by omega, by omega, by omega, HPi⟩
                case measure => simp [intOf]; omega
          · have hjb : ((j : Int) == 1) = false := by simp; omega
            have hj3 : ¬ (j : Int) = 1 := by omega
            have HLr := Lib.hid HPS.out.row
            have HLx : Hid (∀ x ∈ ql, WfI x.id ∧ Byt x.p.zs ∧ x.p.zs.length ≤ 9223372036854775807 ∧ ∀ W, Ch (fun q => q < wP.heap.size) w20 W → Below w.heap.size w W → Row W W.heap.size x.p.A (x.p.zs.map (.int .u8))) := Lib.hid (fun x hx => ⟨(HPS.out.ok x hx).wf, (HPS.out.ok x hx).byt, by have := (HPS.out.ok x hx).len; omega, fun W hc _ => ((HPS.out.tx x hx).chB hc (fun i hi => .inr (fun ad _ h1 h2 => by omega))).row⟩)
            have hll : j = 1 ∨ MR + 2 * ql.length + 22 * (j - 1) ≤ 10000 := by omega
            have hMb : MR ≤ 10000 := by omega
            have hlb : ql.length ≤ 10000000000000 := by omega
            clear hT20 hch20 HPS HPa
            generalize ql = l at *
            have hwj : wrap64 ((j : Int) - 1) = ((j - 1 : Nat) : Int) := by rw [Go.IntWalk.wrap64_in _ (by omega)]; omega
            have HWJ := Lib.hid hwj
            clear hwj
            go_wp2_with fail
            go_loopw [17] (fun v W => ∃ (i MR2 : Nat) (Lr2 : RcL) (r2 : Rcv) (L2 : RfL) (R2 : RfR), v = .int .i64 i ∧ i ≤ l.length ∧ MR2 ≤ MR + 2 * i ∧ Hid (PlSt wc W w.heap.size w.heap.size gW wc.heap.size g (MT + 40) MR2 Lr2 r2 L2 R2 r2) ∧ Hid (∀ q, Lr2.F r2 g q → q < wP.heap.size ∨ w20.heap.size ≤ q) ∧ Hid (Ch (fun q => q < wP.heap.size) w20 W)) (fun v _ => l.length - (intOf v).toNat)
            case atStart => exact ⟨0, MR, Lr, r, L, R, rfl, Nat.zero_le _, by omega, HPb, Lib.hid (fun q hq => .inl (HFb.out q hq)), Lib.hid (Ch.refl _ _)⟩
            case round =>
              clear HPb HFb
              obtain ⟨i, MR2, Lr2, r2, L2, R2, rfl, hi, hMR2, HPi, HFi, HCl⟩ := hrel
              by_cases hlt : i < l.length
              · have hrow := own_row (own_ch HLr.out HCl.out (fun q hq h => by have := own_lt HLr.out q hq; omega))
                obtain ⟨ga, rfl, hga1, hga2⟩ := own_some HLr.out (Nat.lt_of_le_of_lt (Nat.zero_le _) hlt)
                obtain ⟨d0, d1, d2, d3, d4⟩ := pks_lit hrow hlt
                have HX := Lib.hid (HLx.out _ (List.getElem_mem hlt))
                have HLt := Lib.hid hlt
                generalize hx : l[i] = x at d0 d1 d2 d3 d4 HX
                have HXe := Lib.hid hx
                clear hx hrow
                obtain ⟨xk, ⟨x1, x2⟩, xf, ⟨xA, xc, xz⟩⟩ := x
                simp only at d0 d1 d2 d3 d4
                have HBX2 := Lib.hid HPi.out.box
                have b0 := (HBX2.out.cell 0).trans (show _ = some (.int .i64 R2.n) from rfl)
                have b1 := (HBX2.out.cell 1).trans (show _ = some (.slice L2.ai R2.ids.length L2.ci) from rfl)
                have b2 := (HBX2.out.cell 2).trans (show _ = some (.slice L2.ah R2.had.length L2.ch) from rfl)
                have b3 := (HBX2.out.cell 3).trans (show _ = some (.slice L2.ag R2.got.length L2.cg) from rfl)
                have b4 := (HBX2.out.cell 4).trans (show _ = some (.slice L2.ap R2.pre.length L2.cp) from rfl)
                have HRX := Lib.hid (fun W (hg : Grew wr W) => (((HX.out.2.2.2 wr HCl.out (HBl.out _ HPi.out.ch)).up hg (Nat.le_refl _)).more hg.size : Row W W.heap.size xA (xz.map (.int .u8))))
                have hnA : ¬ At gW ga := fun h => by have h2 : ga = gW := h; omega
                have hsB := HPi.out.size
                go_upto_region 25 with (fail)
                refine wp_region_cls (Ch (At gW) wr) 10 (by kernel_rfl) ?_
                have hc0 := (Ch.refl (At gW) wr).drew
                refine AllC.head 1 4 (fuel := 7) (by first | exact fun h k => Grew.trans h k | exact fun h k => cls_grew h k) (hc0) (by rfl) (by kernel_rfl) ?_
                simp only [List.take_succ_cons, List.take_zero, List.drop_succ_cons, List.drop_zero]
                repeat (first
                  | (refine HeadC.val (by rfl) ?_
                     apply Exists.intro
                     refine ⟨fun w' hw' => ?_, ?_⟩
                     · (have hf_0 := hw'.cell d0 hnA; have hf_1 := hw'.cell d1 hnA; have hf_2 := hw'.cell d2 hnA; have hf_3 := hw'.cell d3 hnA; have hf_4 := hw'.cell d4 hnA; (go_simp) <;> (try go_ints) <;> with_reducible rfl)
                     try simp only [Act.put, List.setIfInBounds_toArray, List.set_cons_zero, List.set_cons_succ])
                  | (refine HeadC.shut (by rfl) ?_
                     try simp only [Act.put, List.setIfInBounds_toArray, List.set_cons_zero, List.set_cons_succ]))
                refine HeadC.nil ?_
                refine AllC.one 0 (by kernel_rfl) rfl ?_
                intro wg hg K hK
                have hg1 : Grew wr wg := (grew_drew wr).trans hg
                have e0 := cell_up hg1 b0
                have e1 := cell_up hg1 b1
                have e2 := cell_up hg1 b2
                have e3 := cell_up hg1 b3
                have e4 := cell_up hg1 b4
                go_simp
                refine hK.out _ _ (Ch.of_below hg1) ?_
                clear hK K hg e0 e1 e2 e3 e4 b0 b1 b2 b3 b4 hc0 HBX2
                try simp only [Act.put, List.setIfInBounds_toArray, List.set_cons_zero, List.set_cons_succ]
                refine AllC.one 5 (by kernel_rfl) rfl ?_
                intro wg hg K hK
                go_simp
                have hg2 := Grew.trans hg1 hg
                have HTk := refTake37_any L2 R2 r2 ⟨xk, (x1, x2), xf, ⟨xA, xc, xz⟩⟩ wg (HPi.out.ref.up hg2) HPi.out.rel HPi.out.ok (HRX.out wg hg2) HX.out.2.1 HX.out.2.2.1
                unfold rfV RefTakeRes at HTk
                simp only [Part.v] at HTk
                refine HTk.mono ?_
                clear HTk
                rintro e w22 ⟨L3, R3, rfl, hI3, hF3, hg3, hA3⟩
                have hA3' : ∀ D, RfAt D L2 R2 → RfAt (DnD D wr.heap.size) L3 R3 := fun D hD => (hA3 D hD).mono (fun q hq => hq.imp id (fun h => Nat.le_trans hg2.size h))
                have hg4 := Grew.trans hg2 hg3
                refine hK.out _ _ (Ch.of_below hg4) ?_
                clear hK K hg hg1 hg2 hg3 hA3
                unfold rfV
                try simp only [Act.put, List.setIfInBounds_toArray, List.set_cons_zero, List.set_cons_succ]
                have hc4 : Ch (At gW) wr w22 := Ch.of_below hg4
                refine AllC.head 6 3 (fuel := 2) (by first | exact fun h k => Grew.trans h k | exact fun h k => cls_grew h k) (hc4) (by rfl) (by kernel_rfl) ?_
                simp only [List.take_succ_cons, List.take_zero, List.drop_succ_cons, List.drop_zero]
                repeat (first
                  | (refine HeadC.val (by rfl) ?_
                     apply Exists.intro
                     refine ⟨fun w' hw' => ?_, ?_⟩
                     · (have hf_0 := hc4; (go_simp) <;> (try go_ints) <;> with_reducible rfl)
                     try simp only [Act.put, List.setIfInBounds_toArray, List.set_cons_zero, List.set_cons_succ])
                  | (refine HeadC.shut (by rfl) ?_
                     try simp only [Act.put, List.setIfInBounds_toArray, List.set_cons_zero, List.set_cons_succ]))
                refine HeadC.nil ?_
                refine AllC.one 9 (by kernel_rfl) rfl ?_
                intro wg hg K hK
                have hg5 := Grew.trans hg4 hg
                have hput := HPi.out.put hg5 (hI3.up hg) hF3 (HPi.out.ok.take xk (x1, x2) xf xz HX.out.2.1) hA3'
                have hb5 := (HPi.out.of hg5).box
                have y0 := hb5.frozen 0
                have y1 := hb5.frozen 1
                have y2 := hb5.frozen 2
                have y3 := hb5.frozen 3
                have y4 := hb5.frozen 4
                have e0 := (hb5.cell 0).trans (show _ = some (.int .i64 R2.n) from rfl)
                have e1 := (hb5.cell 1).trans (show _ = some (.slice L2.ai R2.ids.length L2.ci) from rfl)
                have e2 := (hb5.cell 2).trans (show _ = some (.slice L2.ah R2.had.length L2.ch) from rfl)
                have e3 := (hb5.cell 3).trans (show _ = some (.slice L2.ag R2.got.length L2.cg) from rfl)
                have e4 := (hb5.cell 4).trans (show _ = some (.slice L2.ap R2.pre.length L2.cp) from rfl)
                have HPp := Lib.hid hput.1
                have HCp := Lib.hid hput.2
                clear hput hb5
                go_simp
                refine hK.out _ _ ((Ch.of_below hg5).trans HCp.out) ?_
                clear hK K hc4 hI3 hF3 hA3' y0 y1 y2 y3 y4 e0 e1 e2 e3 e4
                try simp only [Act.put, List.setIfInBounds_toArray, List.set_cons_zero, List.set_cons_succ]
                refine AllC.tail 10 (by rfl) (by kernel_rfl) ?_
                intro wt hwt
                simp only [List.drop_succ_cons, List.drop_zero]
                have HPj := Lib.hid (HPp.out.of hwt)
                have HCl2 : Hid (Ch (fun q => q < wP.heap.size) w20 _) := Lib.hid (((HCl.out.next hg5).trans (HCp.out.mono (fun q _ h => by have h2 : q = gW := h; omega))).next hwt)
                clear HPp HCp hwt hg5 hg4 hg d0 d1 d2 d3 d4 hnA
                obtain ⟨d0, d1, d2, d3, d4⟩ := pks_lit (own_row (own_ch HLr.out HCl2.out (fun q hq h => by have := own_lt HLr.out q hq; omega))) HLt.out
                have hx := HXe.out
                generalize l[i] = x' at d0 d1 d2 d3 d4 hx
                subst hx
                simp only at d0 d1 d2 d3 d4
                have HTb := take37_big ⟨xk, (x1, x2), xf, ⟨xA, xc, xz⟩⟩ _ HPj.out.rcv HPj.out.ok HX.out.1 (HX.out.2.2.2 _ HCl2.out (HBl.out _ HPj.out.ch)) HX.out.2.1 HX.out.2.2.1 (by omega) HPj.out.size.2.1
                unfold TakeRes at HTb
                simp only [Part.v] at HTb
                have HTb := Lib.hid HTb
                go_wp2_with fail
                refine HTb.out.mono ?_
                clear HTb d0 d1 d2 d3 d4
                rintro e w24 ⟨Lr4, rfl, hst⟩
                have HPl := Lib.hid ((HPj.out.take hst (HPj.out.ok.take xk (x1, x2) xf xz HX.out.2.1) (HPj.out.rin.take HPj.out.ok xk (x1, x2) xf xz)))
                have HCl3 : Hid (Ch (fun q => q < wP.heap.size) w20 w24) := Lib.hid (HCl2.out.nextNew hst.ch (fun q hq => (HFi.out q hq).symm))
                have HF3 : Hid (∀ q, Lr4.F (takeR r2 xk (x1, x2) xf xz).1 g q → q < wP.heap.size ∨ w20.heap.size ≤ q) := Lib.hid (fun q hq => (hst.fr q hq).elim (fun h => HFi.out q h) (fun h => .inr (Nat.le_trans HCl2.out.size h)))
                clear hst HPj HCl2 HFi HCl HPi
                generalize (takeR r2 xk (x1, x2) xf xz).2 = bb at *
                generalize (takeR r2 xk (x1, x2) xf xz).1 = r4 at *
                cases bb
                all_goals
                  go_wp2_with fail
                  go_roundw
                  case rel => exact ⟨i + 1, MR2 + 2, Lr4, r4, L3, R3, by go_num, by omega, by omega, HPl, HF3, HCl3⟩
                  case measure => simp [intOf]; omega
              · obtain rfl : i = l.length := by omega
                have hwj := HWJ.out
                go_wp2_with fail
                go_roundw
                case rel => exact ⟨j - 1, MT + 40, MR2, Lr2, r2, L2, R2, by first | rfl | go_num, by omega, by omega, by omega, HPi⟩
                case measure => simp [intOf]; omega
        · obtain rfl : j = 0 := by omega
          have b0 := (HBX.out.cell 0).trans (show _ = some (.int .i64 R.n) from rfl)
          have b1 := (HBX.out.cell 1).trans (show _ = some (.slice L.ai R.ids.length L.ci) from rfl)
          have b2 := (HBX.out.cell 2).trans (show _ = some (.slice L.ah R.had.length L.ch) from rfl)
          have b3 := (HBX.out.cell 3).trans (show _ = some (.slice L.ag R.got.length L.cg) from rfl)
          have b4 := (HBX.out.cell 4).trans (show _ = some (.slice L.ap R.pre.length L.cp) from rfl)
          have HIs := Lib.hid (is37_any L R wr HP.out.rcv HP.out.ok HP.out.rin HP.out.ref HP.out.rel (HP.out.rel.okC HP.out.ok HP.out.at_))
          unfold rfV at HIs
          have HBe := Lib.hid (HBl.out _ HP.out.ch)
          clear HP HBX
          go_wp2_with fail
          refine HIs.out.mono ?_
          rintro e w20 ⟨rfl, hg20⟩
          have HGe : Hid (Below w.heap.size w w20) := Lib.hid (Below.trans (B := w.heap.size) HBe.out (hg20.mono HBe.out.size))
          clear hg20
          go_wp2_with fail
          go_ret
          exact ⟨rfl, HGe.out⟩
    · have HZ := Lib.hid hz
      rw [if_neg hz] at hif
      subst hif
      have hne : (chkM (n : Int) (idsOf ps) != 0) = true := by rw [bne_iff_ne]; exact hz
      have heq : (chkM (n : Int) (idsOf ps) == 0) = false := by rw [beq_eq_false_iff_ne]; exact hz
      have HRF2 := Lib.hid (HRF.out w10 hg10)
      have HG10 := Lib.hid (Grew.trans HG9.out hg10)
      clear hg10 hz
      generalize hch : chkM (n : Int) (idsOf ps) = er at *
      clear hch
      go_wp2_with fail
      refine HRF2.out.mono ?_
      clear HRF HRF2 m0 m1
      rintro e w11 ⟨hg11, hif⟩
      rw [if_neg HZ.out] at hif
      subst hif
      have hgz := grew_alloc w11 (.cells #[.int .i64 0, .slice none 0 0, .slice none 0 0, .slice none 0 0, .slice none 0 0] 71)
      have HG11 := Lib.hid (Grew.trans HG10.out (Grew.trans hg11 hgz))
      clear hg11 hgz
      unfold rfZ
      go_wp2_with fail
      refine (known37_any _).mono ?_
      rintro e w12 ⟨rfl, hb12⟩
      have HG12 := Lib.hid (Grew.trans HG11.out hb12)
      clear hb12
      go_wp2_with fail
      go_ret
      exact ⟨rfl, HG12.out⟩
end Go.Proofs.Ytpoiejgoongllaa
