/-
  stockyardlaw37.TransferTrue returns true.
-/
import Derived.Test.YtpoiejgoongllaaPlayA37
import Derived.Test.YtpoiejgoongllaaKnown37
import Derived.Deep.DeepCutAuto
namespace Go.Proofs.Ytpoiejgoongllaa
set_option linter.unusedVariables false
set_option linter.unusedSimpArgs false
set_option linter.unnecessarySimpa false
open Go.RowKit
attribute [local go_sem ↓] Go.wp_at_zero Go.wp_at_succ

/-- a chunk out of some, right or wrong -/
theorem some_factP {ps : List Part} (hS : Pcs37 ps) {q : ChZ} (h : q ∈ rightC ps ∨ WrongC (rightC ps) q) : WfI q.id ∧ Byt q.p.zs ∧ q.p.zs.length ≤ 4096 := by
  have key : ∀ c ∈ rightC ps, WfI c.id ∧ Byt c.p.zs ∧ c.p.zs.length ≤ 2049 := fun c hc => by
    unfold rightC at hc
    obtain ⟨p, hp, rfl⟩ := List.mem_map.1 hc
    exact ⟨pcs_wf hS _ (by unfold idsOf; exact List.mem_map.2 ⟨p, hp, rfl⟩), (hS p hp).len.2.2, (hS p hp).len.2.1⟩
  rcases h with h | ⟨c, hc, b, hb, h2, h3⟩
  · obtain ⟨a, b, c⟩ := key q h
    exact ⟨a, b, by omega⟩
  · obtain ⟨k1, k2, k3⟩ := key c hc
    refine ⟨by rw [h2]; exact k1, fun z hz => ?_, by rw [h3, List.length_cons, List.length_drop]; omega⟩
    rw [h3] at hz
    rcases List.mem_cons.1 hz with rfl | hz
    · omega
    · exact k2 z (List.mem_of_mem_drop hz)
theorem takeR_ids (r : Rcv) (k : Int) (x : IdZ) (f : Int) (zs : List Int) : (takeR r k x f zs).1.ids = r.ids := by
  unfold takeR
  split
  · split
    · rfl
    · split <;> rfl
  · rfl
theorem blk_ne_t {w : World} {a b : Nat} {t u : TypeId} {cs ds : Array Value} (h : Blk w a t cs) (k : Blk w b u ds) (hne : t ≠ u) : a ≠ b := fun e => by
  subst e
  unfold Blk at h k
  rw [h] at k
  injection k with k
  injection k with _ k2
  exact hne k2
theorem done_byt {r : Rcv} (ok : RcOk r) : Byt (doneT r r.ids) := fun z hz => by
  unfold doneT at hz
  obtain ⟨x, _, hzx⟩ := List.mem_flatMap.1 hz
  unfold cmpB at hzx
  cases hc : r.comp x with
  | none => rw [hc] at hzx; cases hzx
  | some zs => rw [hc] at hzx; exact (ok.comp x zs hc).2 z hzx
set_option maxRecDepth 100000 in
set_option maxHeartbeats 16000000 in
theorem lawTTrue_any (A : Option Addr) (cap : Nat) (ls : List Int) (A1 : Option Addr) (cp1 : Nat) (raw : List Pk) (A2 : Option Addr) (cp2 : Nat) (cx : List ChZ) (w : World) (hr : Row w w.heap.size A (ls.map (.int .i64))) (hz : ∀ z ∈ ls, -9223372036854775808 ≤ z ∧ z ≤ 9223372036854775807) (hm : ls.length ≤ 9223372036854775807)
    (hr1 : Row w w.heap.size A1 (pksC raw)) (hg1 : ∀ x ∈ raw, WfI x.id ∧ Byt x.p.zs ∧ Row w w.heap.size x.p.A (x.p.zs.map (.int .u8)) ∧ x.p.zs.length ≤ 9223372036854775807) (hn1 : raw.length * 56 ≤ 140737488351232)
    (hr2 : Row w w.heap.size A2 (chsC cx)) (hg2 : ∀ c ∈ cx, WfI c.id ∧ Row w w.heap.size c.p.A (c.p.zs.map (.int .u8)) ∧ Byt c.p.zs ∧ c.p.zs.length ≤ c.p.cap ∧ c.p.zs.length ≤ 140737488351232) (hn2 : cx.length * 40 ≤ 140737488351232) :
    Calls Try.prog 7 #[.slice A ls.length cap, .slice A1 raw.length cp1, .slice A2 cx.length cp2] w fun e w' => e = .returned (.bool true) ∧ Below w.heap.size w w' := by
  have hT := Tp.new (cap := cap) hr (Nat.le_refl _) hz hm
  have g0 := grew_alloc w (.cells #[.slice A ls.length cap, .int .i64 0] 25)
  have hch0 : Ch (At w.heap.size) w (w.alloc (.cells #[.slice A ls.length cap, .int .i64 0] 25)) := Ch.of_below g0
  have HR1 := Lib.hid hr1
  have HGr := Lib.hid hg1
  have HN1 := Lib.hid hn1
  have HR2 := Lib.hid hr2
  have HGc := Lib.hid hg2
  have HN2 := Lib.hid hn2
  clear hz g0 hr hr1 hg1 hn1 hr2 hg2 hn2
  go_enter Try.func7, Try.ntmps7
  go_wp2_with fail
  generalize w.alloc (.cells #[.slice A ls.length cap, .int .i64 0] 25) = w1 at *
  refine (pieces37_any _ _ _ 4 _ hT (by omega) (by omega)).mono ?_
  rintro e w2 ⟨Ap, cp, ps, rfl, hpl, hS, hownp, hTx, hT2, hch, hcaps⟩
  have hb2 : Grew w w2 := (hch0.trans hch).below (Nat.le_refl _) (fun i hi => by rw [hi]; exact Nat.le_refl _)
  have htl0 := hT.lt
  have h12 := hch.size
  clear hT hch hch0
  have HS := Lib.hid hS
  have HCaps := Lib.hid hcaps
  have HPm := Lib.hid (pcs_pm hS)
  clear hS hcaps
  go_wp2_with fail
  refine (right37_any Ap cp ps w2 (own_row hownp) hTx.lie HPm.out (by omega)).mono ?_
  rintro e w4 ⟨A4, c4, rfl, hown4, hb⟩
  have hg4 := Grew.trans hb2 hb
  replace hTx := hTx.of hb
  replace hT2 := hT2.of hb
  have h24 := hb.size
  clear hb hb2 hownp
  have htot := pcs_tot HS.out
  have htb : totP ps ≤ 1073741824 := by omega
  go_wp2_with fail
  refine (bytes37_any A4 c4 ps w4 (own_row hown4) (by omega)).mono ?_
  rintro e w3 ⟨A9, c9, rfl, hown9, hb⟩
  have hg3 := Grew.trans hg4 hb
  replace hown4 := own_below hown4 hb
  replace hTx := hTx.of hb
  replace hT2 := hT2.of hb
  have h43 := hb.size
  clear hb hg4
  go_wp2_with fail
  refine (refOf25_any A9 c9 _ _ ps w3 hown9 hTx (fun p hp => (HPm.out p hp).1) (by omega) htb).mono ?_
  rintro e w5 ⟨A5, c5, rfl, hown5, hb⟩
  rw [totP_of]
  have hM := Blk.new w5 33 #[.int .i64 (totP ps : Nat), .slice A5 ps.length c5]
  have gM := grew_alloc w5 (.cells #[.int .i64 (totP ps : Nat), .slice A5 ps.length c5] 33)
  have hgb := Grew.trans hb gM
  have hg6 := Grew.trans hg3 hgb
  replace hown4 := own_below hown4 hgb
  replace hown5 := own_below hown5 gM
  replace hTx := hTx.of hgb
  replace hT2 := hT2.of hgb
  have h35 := hb.size
  have hgt : w.heap.size < w5.heap.size := by omega
  clear hb gM hgb hg3 hown9
  go_wp2_with fail
  generalize w5.alloc (.cells #[.int .i64 (totP ps : Nat), .slice A5 ps.length c5] 33) = w6 at *
  generalize w5.heap.size = gm at *
  have hl7 : ¬ At w.heap.size gm := fun h => by have h2 : gm = w.heap.size := h; omega
  have HNB := Lib.hid (tape_noBytes' hT2)
  have hgm := hM.lt
  have h26 : w2.heap.size ≤ w6.heap.size := by omega
  have HB4 := Lib.hid (fun i hi => (hown4.lt i hi).2)
  have HS1 := some37_yes w.heap.size w.heap.size _ w1.heap.size A4 c4 (rightC ps) w6 hT2 (by rw [rightC_length]; exact own_mono hown4 h12) (by rw [rightC_length]; omega) (by omega)
    (fun c hc => by
      unfold rightC at hc
      obtain ⟨p, hp, rfl⟩ := List.mem_map.1 hc
      have := (HS.out p hp).len
      exact ⟨hTx p hp, this.1, HCaps.out p hp, by have := this.2.1; show p.zs.length ≤ _; omega⟩) (by omega)
  unfold SomeWRes at HS1
  rw [rightC_length] at HS1
  refine HS1.mono ?_
  clear HS1
  rintro e w7 ⟨A7, c7, qs, rfl, hql, hqm, hown7, hq7, hT7, hch7⟩
  have hne7 : ∀ {base : Nat} {e : TypeId} {size n : Nat} {v : Value} {xs : List Value}, w6.ownsRow base e size v n xs → w.heap.size < base → w7.ownsRow base e size v n xs := fun ho hb => own_ch ho hch7 (fun i hi h => by have := own_lt ho i hi; have h' : i = w.heap.size := h; omega)
  replace hown4 := hne7 hown4 (by omega)
  replace hown5 := hne7 hown5 (by omega)
  replace hM := hM.ch hch7 hl7
  replace hTx : Txs w7 w1.heap.size ps := fun p hp => (hTx p hp).ch hch7 HNB.out
  have HG7 : Hid (Grew w w7) := Lib.hid (((Ch.of_below hg6).trans hch7).below (Nat.le_refl _) (fun i hi => by rw [hi]; exact Nat.le_refl _))
  have h67 := hch7.size
  have HQ := Lib.hid (fun q hq => some_factP HS.out (hqm q hq))
  have HIn7 : Hid (ChsIn w7 qs) := Lib.hid (fun q hq => ⟨(hq7 q hq).1.row, (hq7 q hq).2, by have := (HQ.out q hq).2.2; omega⟩)
  have HQT7 := Lib.hid hq7
  clear hne7 HNB hT2 hch7 hg6 hqm hq7
  have hrr := HR2.out.below HG7.out (Nat.le_refl _)
  have hn2 : (qs.length + cx.length) * 40 ≤ 140737488355328 := by have := HN2.out; omega
  have HN3 := Lib.hid hn2
  clear hn2
  go_wp2_with (at_builtin; go_loud (refine wpList_append_row rfl (.tmp 33) (.tmp 34) rfl w6.heap.size elem_chunk (by rfl) hown7 _ (by rfl) (chsC_len cx) hrr (ones_chs cx) (by have := HN3.out; unfold maxLen; omega) HN3.out h67 ?_); intro A8 c8 w8 hown8 hg8 _; have hc8 := Ch.of_own hg8; have hM' := hM.ch hc8 (own_blk_ne hown7 hM (by decide)); have m0 : w8.cell? ⟨gm, 0, none⟩ = some (.int .i64 (totP ps : Nat)) := (hM'.cell 0).trans rfl; have m1 : w8.cell? ⟨gm, 1, none⟩ = some (.slice A5 ps.length c5) := (hM'.cell 1).trans rfl)
  have hown4' := own_ch hown4 hc8 (fun i hi h => by have h1 := HB4.out i hi; have h2 := own_lt hown7 i h; omega)
  have hown5' := own_ch hown5 hc8 (own_own_ne hown5 hown7 (by decide))
  have hTx' : Txs w8 w1.heap.size ps := fun p hp => (hTx p hp).ch hc8 (own_noBytes hown7 (by decide))
  have hT8 := tape_own hT7 hown7 hg8 (by decide) (by omega)
  have HG9 : Hid (Grew w w8) := Lib.hid (Below.trans (B := w.heap.size) HG7.out (below_grown hg8 (by omega) (fun k hk => by have := own_lt hown7 k hk; omega)))
  have h78 : w7.heap.size ≤ w8.heap.size := hc8.size
  have HIn : Hid (ChsIn w8 (qs ++ cx)) := Lib.hid (fun q hq => by
    rcases List.mem_append.1 hq with hq | hq
    · exact ⟨((HQT7.out q hq).1.ch hc8 (own_noBytes hown7 (by decide))).row, (HQT7.out q hq).2, by have := (HQ.out q hq).2.2; omega⟩
    · obtain ⟨_, q2, _, q4, q5⟩ := HGc.out q hq
      exact ⟨(q2.below HG9.out (Nat.le_refl _)).more HG9.out.size, q4, by omega⟩)
  have HWq : Hid (∀ q ∈ qs ++ cx, WfI q.id ∧ Byt q.p.zs ∧ q.p.zs.length ≤ 9223372036854775807) := Lib.hid (fun q hq => by
    rcases List.mem_append.1 hq with hq | hq
    · exact ⟨(HQ.out q hq).1, (HQ.out q hq).2.1, by have := (HQ.out q hq).2.2; omega⟩
    · obtain ⟨q1, _, q3, _, q5⟩ := HGc.out q hq
      exact ⟨q1, q3, by omega⟩)
  have hown8' : w8.ownsRow w6.heap.size 64 3 (.slice A8 (qs ++ cx).length c8) (qs ++ cx).length (chsC (qs ++ cx)) := by rw [List.length_append, chsC_append]; exact hown8
  have e9 : qs.length + cx.length = (qs ++ cx).length := by rw [List.length_append]
  have hhl : (qs ++ cx).length ≤ 10000000000000 := by rw [List.length_append]; have := HN2.out; omega
  rw [e9]
  clear hown4 hown5 hown7 hown8 hg8 hc8 hM hTx hT7 hrr HN3 e9 HB4 HQT7 HIn7 HG7
  generalize qs ++ cx = hs at *
  have HWf := Lib.hid (pcs_wf HS.out)
  have HZ : Hid (chkM ((totP ps : Nat) : Int) (idsOf ps) = 0) := Lib.hid (pcs_chk HS.out (by omega))
  have hil := idsOf_length ps
  have HRv := receive37_any (totP ps) A5 c5 (idsOf ps) A8 c8 hs w8 (by have h9 := own_row hown5'; exact h9) HWf.out (by rw [hil]; omega) (own_row hown8') HIn.out (fun q hq => ⟨(HWq.out q hq).1, (HWq.out q hq).2.1⟩) (by omega)
  have HRf := fun W (hg : Grew w8 W) => refReceive37_any (totP ps) A5 c5 (idsOf ps) A8 c8 hs W ((own_row hown5').up hg (Nat.le_refl _) |>.more hg.size) (by rw [hil]; omega) ((own_row hown8').up hg (Nat.le_refl _) |>.more hg.size) (fun q hq => ((HIn.out.up hg) q hq).1) (fun q hq => (HWq.out q hq).2) (by omega)
  have HWh := Lib.hid (fun W (hg : Grew w8 W) => whole25_any (totP ps : Nat) A5 c5 W.heap.size (idsOf ps) W ((own_row hown5').up hg (Nat.le_refl _) |>.more hg.size) HWf.out (Nat.le_refl _) (by rw [hil]; omega))
  unfold RecvRes at HRv
  unfold RefRecvRes at HRf
  rw [hil] at HRv HRf HWh
  have HRF := Lib.hid HRf
  clear HRf hil
  go_wp2_with fail
  refine HRv.mono ?_
  clear HRv
  rintro e w10 ⟨hg10, hif⟩
  replace m0 := cell_up hg10 m0
  replace m1 := cell_up hg10 m1
  rw [if_pos HZ.out] at hif
  obtain ⟨g, Lr0, rfl, hI⟩ := hif
  have HRF2 := Lib.hid (HRF.out w10 hg10)
  have HI0 := Lib.hid hI
  have HG10 := Lib.hid hg10
  clear hg10 hI
  go_wp2_with fail
  refine HRF2.out.mono ?_
  clear HRF HRF2
  rintro e w11 ⟨hg11, hif⟩
  rw [if_pos HZ.out] at hif
  obtain ⟨L0, R0, rfl, hI0, hF0, hA0⟩ := hif
  have hPl : PlSt w8 (w11.alloc (.cells (rfB5 L0 R0) 71)) w.heap.size w.heap.size w11.heap.size w8.heap.size g (0 + 1 + 3 * 4 + 2 * ps.length) hs.length Lr0 (recvR (totP ps) (idsOf ps) hs) L0 R0 (recvR (totP ps) (idsOf ps) hs) :=
    PlSt.init hT8 (Nat.le_refl _) HG10.out HI0.out (recvR_ok HZ.out HWf.out (fun q hq => (HWq.out q hq).2.1)) (recvIn_recvR _ _ _) hg11 hI0 hF0 (hA0 _ (fun _ ad he => by
      subst he
      have h1 := own_lt hown5' ad.block rfl
      have h2 := (hown5'.lt ad.block rfl).2
      exact ⟨h2, by omega⟩))
  have HAll : Hid (∀ W, Ch (At w.heap.size) w8 W → W.ownsRow w1.heap.size 64 3 (.slice A4 ps.length c4) ps.length (chsC (rightC ps)) ∧ ∀ c ∈ rightC ps, Tx W w1.heap.size c.p ∧ Byt c.p.zs ∧ c.p.zs.length ≤ c.p.cap ∧ c.p.zs.length ≤ 1048576) := Lib.hid (fun W hc => ⟨own_mono (own_ch hown4' hc (fun i hi h => by have h1 := own_lt hown4' i hi; have h2 : i = w.heap.size := h; omega)) h12, fun c hcm => by
    unfold rightC at hcm
    obtain ⟨p, hp, rfl⟩ := List.mem_map.1 hcm
    have := (HS.out p hp).len
    exact ⟨(hTx' p hp).ch hc (tape_noBytes' hT8), this.2.2, HCaps.out p hp, by have := this.2.1; show p.zs.length ≤ _; omega⟩⟩)
  have HBl : Hid (∀ W, Ch (At w.heap.size) w8 W → Below w.heap.size w W) := Lib.hid (fun W hc => ((Ch.of_below HG9.out).trans hc).below (Nat.le_refl _) (fun i hi => by rw [hi]; exact Nat.le_refl _))
  have hwc : w.heap.size ≤ w8.heap.size := by omega
  have hgbx := grew_alloc w11 (.cells (rfB5 L0 R0) 71)
  have HW2 := Lib.hid (HWh.out _ (Grew.trans HG10.out (Grew.trans hg11 hgbx)))
  replace m0 := cell_up (Grew.trans hg11 hgbx) m0
  replace m1 := cell_up (Grew.trans hg11 hgbx) m1
  clear hT8 hA0 hI0 hF0 HI0 HG10 hg11 hown4' hown5' hown8' hTx' HIn HG9 hM' hgbx HWh
  have HP0 := Lib.hid hPl
  clear hPl
  unfold rfV
  unfold rfB5 at m0 m1 HP0 HW2
  go_wp2_with fail
  obtain ⟨gW, hgW⟩ : ∃ gW, gW = w11.heap.size := ⟨_, rfl⟩
  rw [← hgW] at HP0 ⊢
  have HP1 : Hid (PlSt w8 (w11.alloc (.cells #[.int .i64 R0.n, .slice L0.ai R0.ids.length L0.ci, .slice L0.ah R0.had.length L0.ch, .slice L0.ag R0.got.length L0.cg, .slice L0.ap R0.pre.length L0.cp] 71)) w.heap.size w.heap.size gW w8.heap.size g (0 + 1 + 3 * 4 + 2 * ps.length) hs.length Lr0 (recvR (totP ps) (idsOf ps) hs) L0 R0 (recvR (totP ps) (idsOf ps) hs)) := HP0
  clear HP0 hgW
  generalize w11.alloc (.cells #[.int .i64 R0.n, .slice L0.ai R0.ids.length L0.ci, .slice L0.ah R0.had.length L0.ch, .slice L0.ag R0.got.length L0.cg, .slice L0.ap R0.pre.length L0.cp] 71) = w12 at *
  refine HW2.out.mono ?_
  clear HW2 m0 m1
  rintro e w13 ⟨rfl, hb13⟩
  have hwh : whE (totP ps : Nat) (idsOf ps) = whS (idsOf ps) := by unfold whE; rw [if_pos HZ.out]
  rw [hwh, HZ.out]
  obtain ⟨⟨s1, s2⟩, hss⟩ : ∃ s, whS (idsOf ps) = s := ⟨_, rfl⟩
  rw [hss]
  have HSS := Lib.hid hss
  have hga := grew_alloc w13 (.cells #[.int .u64 s1, .int .i64 s2] 53)
  have kH := Blk.new w13 53 #[.int .u64 s1, .int .i64 s2]
  have HP2 := Lib.hid (HP1.out.of (Grew.trans hb13 hga))
  have hnF : ¬ Lr0.F (recvR (totP ps) (idsOf ps) hs) g w13.heap.size := fun h => by have h1 := HP1.out.rcv.Flt _ h; have h2 := hb13.size; omega
  clear hwh hss HP1 hb13 hga
  go_wp2_with fail
  generalize w13.alloc (.cells #[.int .u64 s1, .int .i64 s2] 53) = w14 at *
  generalize w13.heap.size = gh at *
  refine (known37_any w14).mono ?_
  rintro e w15 ⟨rfl, hb15⟩
  have HP3 := Lib.hid (HP2.out.of hb15)
  have HKH := Lib.hid (kH.of hb15)
  have HNF := Lib.hid hnF
  have HID : Hid ((recvR (totP ps) (idsOf ps) hs).ids = idsOf ps) := Lib.hid rfl
  clear hb15 HP2 kH hnF
  generalize recvR (totP ps) (idsOf ps) hs = r0 at *
  obtain ⟨X, hX⟩ : ∃ X, X = 2 * (11 + raw.length) := ⟨_, rfl⟩
  have HX2 : Hid (X = 2 * (11 + raw.length)) := Lib.hid hX
  have HXb : Hid (X ≤ 10000000000000) := Lib.hid (by have := HN1.out; omega)
  clear hX
  go_wp2_with fail
  go_loopw [17] (fun v W => ∃ (k MT MR : Nat) (Lr : RcL) (r : Rcv) (L : RfL) (R : RfR), v = .int .i64 k ∧ k ≤ 8 ∧ MT ≤ 1000 + 40 * k ∧ Hid (MR ≤ 10000000000000 + k * X) ∧ Hid (r.ids = idsOf ps) ∧ Hid (PlSt w8 W w.heap.size w.heap.size gW w8.heap.size g MT MR Lr r L R r) ∧ Hid (Blk W gh 53 #[.int .u64 s1, .int .i64 s2]) ∧ Hid (¬ Lr.F r g gh)) (fun v _ => 8 - (intOf v).toNat)
  case atStart => exact ⟨0, _, _, Lr0, r0, L0, R0, rfl, Nat.zero_le _, by omega, Lib.hid (by omega), HID, HP3, HKH, HNF⟩
  case round =>
    clear HP3 HKH HNF HID
    obtain ⟨k, MT, MR, Lr, r, L, R, rfl, hk8, hMT, HMR, HID, HP, HKH, HNF⟩ := hrel
    have HBX := Lib.hid HP.out.box
    have HSz := Lib.hid HP.out.size
    by_cases hk1 : k < 8
    · have hkI : (k : Int) < 8 := by omega
      have b0 := (HBX.out.cell 0).trans (show _ = some (.int .i64 R.n) from rfl)
      have b1 := (HBX.out.cell 1).trans (show _ = some (.slice L.ai R.ids.length L.ci) from rfl)
      have b2 := (HBX.out.cell 2).trans (show _ = some (.slice L.ah R.had.length L.ch) from rfl)
      have b3 := (HBX.out.cell 3).trans (show _ = some (.slice L.ag R.got.length L.cg) from rfl)
      have b4 := (HBX.out.cell 4).trans (show _ = some (.slice L.ap R.pre.length L.cp) from rfl)
      have HPk := packets37_any w.heap.size w.heap.size MT w1.heap.size L R A4 c4 (rightC ps) wr HP.out.tp HP.out.ref (HP.out.rel.ok HP.out.ok) HP.out.wf (by omega) (by rw [rightC_length]; exact (HAll.out wr HP.out.ch).1) (by rw [rightC_length]; omega) (HAll.out wr HP.out.ch).2 (by have := HP.out.size.1; omega)
      rw [rightC_length] at HPk
      unfold rfV at HPk
      have HPk := Lib.hid HPk
      obtain ⟨wP, hwP⟩ : ∃ wP, wP = wr := ⟨_, rfl⟩
      subst hwP
      go_wp2_with fail
      refine HPk.out.mono ?_
      clear HPk b0 b1 b2 b3 b4 HBX
      rintro e w20 ⟨A20, c20, ql, rfl, hPS, hql11, hT20, hch20⟩
      have HFb : Hid (∀ q, Lr.F r g q → q < wP.heap.size) := Lib.hid (fun q hq => HP.out.rcv.Flt q hq)
      have hbp : w.heap.size < wP.heap.size ∧ gW < wP.heap.size ∧ w8.heap.size ≤ wP.heap.size := by have h1 := HP.out.size; omega
      have hgh : gh < wP.heap.size := HKH.out.lt
      have hgt2 : gh ≠ w.heap.size := fun e => by
        obtain ⟨_, _, _, _, hBt, _⟩ := HP.out.tp.ex
        have h1 := (HKH.out).ch (Ch.refl (At w.heap.size) _)
        exact (blk_ne_t HKH.out hBt (by decide)) e
      have HPb0 := Lib.hid (HP.out.tape hT20 hch20)
      have HPS := Lib.hid hPS
      clear hPS
      have hrr := HR1.out.below (HBl.out w20 HPb0.out.ch) (Nat.le_refl _)
      have hrq := HPS.out.row
      have hn1 := HN1.out
      have HN3 : Hid ((ql.length + raw.length) * 56 ≤ 140737488355328) := Lib.hid (by omega)
      have hs20 : wP.heap.size ≤ w20.heap.size := hch20.size
      clear hn1
      go_wp2_with (at_builtin; go_loud (refine wpList_append_row rfl (.tmp 74) (.tmp 75) rfl wP.heap.size elem_pk (by rfl) hrq _ (by rfl) (pksC_len raw) hrr (ones_pks raw) (by have := HN3.out; unfold maxLen; omega) HN3.out hs20 ?_); intro A21 c21 w21 hown21 hg21 _)
      have hch21 : Ch (At w.heap.size) wP w21 := hch20.nextNew (Ch.of_own hg21) (fun q hq => .inl (own_lt hrq q hq))
      have HPb := Lib.hid (HP.out.tape (tape_own hT20 hrq hg21 (by decide) (by omega)) hch21)
      have HKb := Lib.hid (HKH.out.ch hch21 (fun h => hgt2 h))
      have HLr : Hid (w21.ownsRow wP.heap.size 55 5 (.slice A21 (ql ++ raw).length c21) (ql ++ raw).length (pksC (ql ++ raw))) := Lib.hid (by rw [List.length_append, pksC_append]; exact hown21)
      have HLx : Hid (∀ x ∈ ql ++ raw, WfI x.id ∧ Byt x.p.zs ∧ x.p.zs.length ≤ 9223372036854775807 ∧ ∀ W, Ch (fun q => q < wP.heap.size) w21 W → Below w.heap.size w W → Row W W.heap.size x.p.A (x.p.zs.map (.int .u8))) := Lib.hid (fun x hx => by
        rcases List.mem_append.1 hx with hx | hx
        · exact ⟨(HPS.out.ok x hx).wf, (HPS.out.ok x hx).byt, by have := (HPS.out.ok x hx).len; omega, fun W hc _ => (((HPS.out.tx x hx).ch (Ch.of_own hg21) HPS.out.noB).chB hc (fun i hi => .inr (fun ad _ h1 h2 => by omega))).row⟩
        · obtain ⟨q1, q2, q3, q4⟩ := HGr.out x hx
          exact ⟨q1, q2, q4, fun W _ hb => (q3.below hb (Nat.le_refl _)).more hb.size⟩)
      have hl2 : 2 * (ql ++ raw).length ≤ X := by rw [List.length_append]; have := HX2.out; omega
      have hlb : (ql ++ raw).length ≤ 10000000000000 := by rw [List.length_append]; have := HN1.out; omega
      have e9 : ql.length + raw.length = (ql ++ raw).length := by rw [List.length_append]
      have HMb : Hid (MR ≤ 100000000000000) := Lib.hid (by
        have h1 := HMR.out
        have h2 : k * X ≤ 8 * X := Nat.mul_le_mul_right X (by omega)
        have h3 := HXb.out
        omega)
      rw [e9]
      clear hT20 hch20 HPS hown21 hg21 hch21 hrr hrq HN3 HPb0 e9 hs20 HKH HP
      generalize ql ++ raw = l at *
      go_wp2_with fail
      go_loopw [19] (fun v W => ∃ (i MR2 : Nat) (Lr2 : RcL) (r2 : Rcv) (L2 : RfL) (R2 : RfR), v = .int .i64 i ∧ i ≤ l.length ∧ MR2 ≤ MR + 2 * i ∧ Hid (r2.ids = idsOf ps) ∧ Hid (PlSt w8 W w.heap.size w.heap.size gW w8.heap.size g (MT + 40) MR2 Lr2 r2 L2 R2 r2) ∧ Hid (∀ q, Lr2.F r2 g q → q < wP.heap.size ∨ w21.heap.size ≤ q) ∧ Hid (Ch (fun q => q < wP.heap.size) w21 W) ∧ Hid (Blk W gh 53 #[.int .u64 s1, .int .i64 s2]) ∧ Hid (¬ Lr2.F r2 g gh)) (fun v _ => l.length - (intOf v).toNat)
      case atStart => exact ⟨0, MR, Lr, r, L, R, rfl, Nat.zero_le _, by omega, HID, HPb, Lib.hid (fun q hq => .inl (HFb.out q hq)), Lib.hid (Ch.refl _ _), HKb, HNF⟩
      case round =>
        clear HPb HFb HKb HNF HID
        obtain ⟨i, MR2, Lr2, r2, L2, R2, rfl, hi, hMR2, HID, HPi, HFi, HCl, HKi, HNFi⟩ := hrel
        by_cases hlt : i < l.length
        · have hrow := own_row (own_ch HLr.out HCl.out (fun q hq h => by have := own_lt HLr.out q hq; omega))
          obtain ⟨ga, rfl, hga1, hga2⟩ := own_some HLr.out (Nat.lt_of_le_of_lt (Nat.zero_le _) hlt)
          obtain ⟨d0, d1, d2, d3, d4⟩ := pks_lit hrow hlt
          have HX := Lib.hid (HLx.out _ (List.getElem_mem hlt))
          have HLt := Lib.hid hlt
          generalize hx : l[i] = x at d0 d1 d2 d3 d4 HX
          have HXe := Lib.hid hx
          clear hx hrow
          obtain ⟨xk, ⟨x1, x2⟩, xf, ⟨xA, xc, xz⟩⟩ := x
          simp only at d0 d1 d2 d3 d4
          have hMb := HMb.out
          have HTb := take37_big ⟨xk, (x1, x2), xf, ⟨xA, xc, xz⟩⟩ _ HPi.out.rcv HPi.out.ok HX.out.1 (HX.out.2.2.2 _ HCl.out (HBl.out _ HPi.out.ch)) HX.out.2.1 HX.out.2.2.1 (by omega) HPi.out.size.2.1
          clear hMb
          unfold TakeRes at HTb
          simp only [Part.v] at HTb
          have HTb := Lib.hid HTb
          go_wp2_with fail
          refine HTb.out.mono ?_
          clear HTb d0 d1 d2 d3 d4
          rintro e w24 ⟨Lr4, rfl, hst⟩
          have HPl := Lib.hid ((HPi.out.take hst (HPi.out.ok.take xk (x1, x2) xf xz HX.out.2.1) (HPi.out.rin.take HPi.out.ok xk (x1, x2) xf xz)))
          have HCl3 : Hid (Ch (fun q => q < wP.heap.size) w21 w24) := Lib.hid (HCl.out.nextNew hst.ch (fun q hq => (HFi.out q hq).symm))
          have HF3 : Hid (∀ q, Lr4.F (takeR r2 xk (x1, x2) xf xz).1 g q → q < wP.heap.size ∨ w21.heap.size ≤ q) := Lib.hid (fun q hq => (hst.fr q hq).elim (fun h => HFi.out q h) (fun h => .inr (Nat.le_trans HCl.out.size h)))
          have HK4 := Lib.hid (HKi.out.ch hst.ch HNFi.out)
          have HNF4 : Hid (¬ Lr4.F (takeR r2 xk (x1, x2) xf xz).1 g gh) := Lib.hid (fun h => (hst.fr gh h).elim HNFi.out (fun h => by have := HKi.out.lt; omega))
          have HID4 : Hid ((takeR r2 xk (x1, x2) xf xz).1.ids = idsOf ps) := Lib.hid ((takeR_ids _ _ _ _ _).trans HID.out)
          have HBX2 := Lib.hid HPl.out.box
          have HRX := Lib.hid (fun W (hg : Grew w24 W) => (((HX.out.2.2.2 w24 HCl3.out (HBl.out _ HPl.out.ch)).up hg (Nat.le_refl _)).more hg.size : Row W W.heap.size xA (xz.map (.int .u8))))
          clear hst HFi HCl HKi HNFi HID
          generalize (takeR r2 xk (x1, x2) xf xz).2 = bb at *
          obtain ⟨d0, d1, d2, d3, d4⟩ := pks_lit (own_row (own_ch HLr.out HCl3.out (fun q hq h => by have := own_lt HLr.out q hq; omega))) HLt.out
          have hx := HXe.out
          generalize l[i] = x' at d0 d1 d2 d3 d4 hx
          subst hx
          simp only at d0 d1 d2 d3 d4
          have b0 := (HBX2.out.cell 0).trans (show _ = some (.int .i64 R2.n) from rfl)
          have b1 := (HBX2.out.cell 1).trans (show _ = some (.slice L2.ai R2.ids.length L2.ci) from rfl)
          have b2 := (HBX2.out.cell 2).trans (show _ = some (.slice L2.ah R2.had.length L2.ch) from rfl)
          have b3 := (HBX2.out.cell 3).trans (show _ = some (.slice L2.ag R2.got.length L2.cg) from rfl)
          have b4 := (HBX2.out.cell 4).trans (show _ = some (.slice L2.ap R2.pre.length L2.cp) from rfl)
          have hnA : ¬ At gW ga := fun h => by have h2 : ga = gW := h; omega
          have hsB := HPl.out.size
          go_upto_region 18 with (fail)
          refine wp_region_cls (Ch (At gW) w24) 10 (by kernel_rfl) ?_
          have hc0 := (Ch.refl (At gW) w24).drew
          refine AllC.head 1 4 (fuel := 6) (by first | exact fun h k => Grew.trans h k | exact fun h k => cls_grew h k) (hc0) (by rfl) (by kernel_rfl) ?_
          simp only [List.take_succ_cons, List.take_zero, List.drop_succ_cons, List.drop_zero]
          repeat (first
            | (refine HeadC.val (by rfl) ?_
               apply Exists.intro
               refine ⟨fun w' hw' => ?_, ?_⟩
               · (have hf_0 := hw'.cell d0 hnA; have hf_1 := hw'.cell d1 hnA; have hf_2 := hw'.cell d2 hnA; have hf_3 := hw'.cell d3 hnA; have hf_4 := hw'.cell d4 hnA; (go_simp) <;> (try go_ints) <;> with_reducible rfl)
               try simp only [Act.put, List.setIfInBounds_toArray, List.set_cons_zero, List.set_cons_succ])
            | (refine HeadC.shut (by rfl) ?_
               try simp only [Act.put, List.setIfInBounds_toArray, List.set_cons_zero, List.set_cons_succ]))
          refine HeadC.nil ?_
          refine AllC.one 0 (by kernel_rfl) rfl ?_
          intro wg hg K hK
          have hg1 : Grew w24 wg := (grew_drew w24).trans hg
          have e0 := cell_up hg1 b0
          have e1 := cell_up hg1 b1
          have e2 := cell_up hg1 b2
          have e3 := cell_up hg1 b3
          have e4 := cell_up hg1 b4
          go_simp
          refine hK.out _ _ (Ch.of_below hg1) ?_
          clear hK K hg e0 e1 e2 e3 e4 b0 b1 b2 b3 b4 hc0 HBX2 d0 d1 d2 d3 d4
          try simp only [Act.put, List.setIfInBounds_toArray, List.set_cons_zero, List.set_cons_succ]
          refine AllC.one 5 (by kernel_rfl) rfl ?_
          intro wg hg K hK
          go_simp
          have hg2 := Grew.trans hg1 hg
          have HTk := refTake37_any L2 R2 r2 ⟨xk, (x1, x2), xf, ⟨xA, xc, xz⟩⟩ wg (HPl.out.ref.up hg2) HPi.out.rel HPi.out.ok (HRX.out wg hg2) HX.out.2.1 HX.out.2.2.1
          unfold rfV RefTakeRes at HTk
          simp only [Part.v] at HTk
          refine HTk.mono ?_
          clear HTk
          rintro e w22 ⟨L3, R3, rfl, hI3, hF3, hg3, hA3⟩
          have hA3' : ∀ D, RfAt D L2 R2 → RfAt (DnD D w24.heap.size) L3 R3 := fun D hD => (hA3 D hD).mono (fun q hq => hq.imp id (fun h => Nat.le_trans hg2.size h))
          have hg4 := Grew.trans hg2 hg3
          refine hK.out _ _ (Ch.of_below hg4) ?_
          clear hK K hg hg1 hg2 hg3 hA3
          unfold rfV
          try simp only [Act.put, List.setIfInBounds_toArray, List.set_cons_zero, List.set_cons_succ]
          have hc4 : Ch (At gW) w24 w22 := Ch.of_below hg4
          refine AllC.head 6 3 (fuel := 1) (by first | exact fun h k => Grew.trans h k | exact fun h k => cls_grew h k) (hc4) (by rfl) (by kernel_rfl) ?_
          simp only [List.take_succ_cons, List.take_zero, List.drop_succ_cons, List.drop_zero]
          repeat (first
            | (refine HeadC.val (by rfl) ?_
               apply Exists.intro
               refine ⟨fun w' hw' => ?_, ?_⟩
               · (have hf_0 := hc4; (go_simp) <;> (try go_ints) <;> with_reducible rfl)
               try simp only [Act.put, List.setIfInBounds_toArray, List.set_cons_zero, List.set_cons_succ])
            | (refine HeadC.shut (by rfl) ?_
               try simp only [Act.put, List.setIfInBounds_toArray, List.set_cons_zero, List.set_cons_succ]))
          refine HeadC.nil ?_
          refine AllC.one 9 (by kernel_rfl) rfl ?_
          intro wg hg K hK
          have hg5 := Grew.trans hg4 hg
          have hput := HPl.out.put hg5 (hI3.up hg) hF3 (HPi.out.ok.take xk (x1, x2) xf xz HX.out.2.1) hA3'
          have hb5 := (HPl.out.of hg5).box
          have y0 := hb5.frozen 0
          have y1 := hb5.frozen 1
          have y2 := hb5.frozen 2
          have y3 := hb5.frozen 3
          have y4 := hb5.frozen 4
          have e0 := (hb5.cell 0).trans (show _ = some (.int .i64 R2.n) from rfl)
          have e1 := (hb5.cell 1).trans (show _ = some (.slice L2.ai R2.ids.length L2.ci) from rfl)
          have e2 := (hb5.cell 2).trans (show _ = some (.slice L2.ah R2.had.length L2.ch) from rfl)
          have e3 := (hb5.cell 3).trans (show _ = some (.slice L2.ag R2.got.length L2.cg) from rfl)
          have e4 := (hb5.cell 4).trans (show _ = some (.slice L2.ap R2.pre.length L2.cp) from rfl)
          have HPp := Lib.hid hput.1
          have HCp := Lib.hid hput.2
          have HKp := Lib.hid (((HK4.out.of hg5)).ch hput.2 (fun h => (blk_ne_t HK4.out HPl.out.box (by decide)) (show gh = gW from h)))
          clear hput hb5
          go_simp
          refine hK.out _ _ ((Ch.of_below hg5).trans HCp.out) ?_
          clear hK K hc4 hI3 hF3 hA3' y0 y1 y2 y3 y4 e0 e1 e2 e3 e4
          try simp only [Act.put, List.setIfInBounds_toArray, List.set_cons_zero, List.set_cons_succ]
          refine AllC.done (by kernel_rfl) (fun wt hwt => ?_)
          have HPj := Lib.hid (HPp.out.of hwt)
          have HKj := Lib.hid (HKp.out.of hwt)
          have HCl2 : Hid (Ch (fun q => q < wP.heap.size) w21 _) := Lib.hid (((HCl3.out.next hg5).trans (HCp.out.mono (fun q _ h => by have h2 : q = gW := h; omega))).next hwt)
          clear HPp HCp hwt hg5 hg4 hg hnA HPi HPl HKp HK4 HCl3 HRX HX
          generalize (takeR r2 xk (x1, x2) xf xz).1 = r4 at *
          go_wp2_with fail
          go_roundw
          case rel => exact ⟨i + 1, MR2 + 2, Lr4, r4, L3, R3, by go_num, by omega, by omega, HID4, HPj, HF3, HCl2, HKj, HNF4⟩
          case measure => simp [intOf]; omega
        · obtain rfl : i = l.length := by omega
          have HMe : Hid (MR2 ≤ 10000000000000 + (k + 1) * X) := Lib.hid (by
            have h1 := HMR.out
            rw [Nat.succ_mul]
            omega)
          have HMi := Lib.hid (fun W (hg : Grew wr W) => missing37_any W (HPi.out.rcv.of hg) HPi.out.ok)
          have h0 := (HKi.out.cell 0).trans (show _ = some (.int .u64 s1) from rfl)
          have h1 := (HKi.out.cell 1).trans (show _ = some (.int .i64 s2) from rfl)
          by_cases hmm : r2.miss = []
          · have HDy := Lib.hid (done37_yes wr HPi.out.rcv HPi.out.ok hmm)
            have hid9 := (done_id HPi.out.ok hmm).trans (show whS r2.ids = (s1, s2) by rw [HID.out]; exact HSS.out)
            have hdb : Byt (doneT r2 r2.ids) := done_byt HPi.out.ok
            have hdl := done_len HPi.out.ok hmm
            have hnl := HPi.out.ok.len.2.1
            have hdl2 : (doneT r2 r2.ids).length ≤ 1048576 := by omega
            have q1 : sumZ (doneT r2 r2.ids) = s1 := congrArg Prod.fst hid9
            have q2 : ((doneT r2 r2.ids).length : Int) = s2 := congrArg Prod.snd hid9
            have HQ1 := Lib.hid q1
            have HQ2 := Lib.hid q2
            have hm0 : r2.miss.length = 0 := by rw [hmm]; rfl
            have HM0 := Lib.hid hm0
            clear hid9 hdl hnl q1 q2 hm0 hmm
            go_wp2_with fail
            refine HDy.out.mono ?_
            clear HDy
            rintro e w30 ⟨A30, c30, rfl, hown30, hg30⟩
            replace h0 := cell_up hg30 h0
            replace h1 := cell_up hg30 h1
            have hr30 := own_row hown30
            generalize doneT r2 r2.ids = ds at *
            go_upto_region 20 with (fail)
            refine wp_region_g 14 (by kernel_rfl) ?_
            have hgW : Grew w30 w30.drew := grew_drew _
            refine AllC.head 0 3 (fuel := 12) (by first | exact fun h k => Grew.trans h k | exact fun h k => cls_grew h k) (hgW) (by rfl) (by kernel_rfl) ?_
            simp only [List.take_succ_cons, List.take_zero, List.drop_succ_cons, List.drop_zero]
            repeat (first
              | (refine HeadC.val (by rfl) ?_
                 apply Exists.intro
                 refine ⟨fun w' hw' => ?_, ?_⟩
                 · ((go_simp) <;> (try go_ints) <;> with_reducible rfl)
                 try simp only [Act.put, List.setIfInBounds_toArray, List.set_cons_zero, List.set_cons_succ])
              | (refine HeadC.shut (by rfl) ?_
                 try simp only [Act.put, List.setIfInBounds_toArray, List.set_cons_zero, List.set_cons_succ]))
            refine HeadC.nil ?_
            refine AllC.head 4 1 (fuel := 11) (by first | exact fun h k => Grew.trans h k | exact fun h k => cls_grew h k) (hgW) (by rfl) (by kernel_rfl) ?_
            simp only [List.take_succ_cons, List.take_zero, List.drop_succ_cons, List.drop_zero]
            repeat (first
              | (refine HeadC.val (by rfl) ?_
                 apply Exists.intro
                 refine ⟨fun w' hw' => ?_, ?_⟩
                 · (have hf_0 := cell_up hw' h0; have hf_1 := cell_up hw' h1; (go_simp) <;> (try go_ints) <;> with_reducible rfl)
                 try simp only [Act.put, List.setIfInBounds_toArray, List.set_cons_zero, List.set_cons_succ])
              | (refine HeadC.shut (by rfl) ?_
                 try simp only [Act.put, List.setIfInBounds_toArray, List.set_cons_zero, List.set_cons_succ]))
            refine HeadC.nil ?_
            refine AllC.one 3 (by kernel_rfl) rfl ?_
            intro wg hg K hK
            go_simp
            replace hgW := Grew.trans hgW hg
            have HOf := of_any A30 c30 wg.heap.size ds wg ((hr30.up hgW (Nat.le_refl _)).more hgW.size) (Nat.le_refl _) hdb (by omega)
            rw [HQ1.out, HQ2.out] at HOf
            refine HOf.mono ?_
            clear HOf
            rintro e w31 ⟨rfl, hg31⟩
            replace hgW := Grew.trans hgW hg31
            refine hK.out _ _ hgW ?_
            clear hK K hg hg31
            try simp only [Act.put, List.setIfInBounds_toArray, List.set_cons_zero, List.set_cons_succ]
            refine AllC.head 5 5 (fuel := 5) (by first | exact fun h k => Grew.trans h k | exact fun h k => cls_grew h k) (hgW) (by rfl) (by kernel_rfl) ?_
            simp only [List.take_succ_cons, List.take_zero, List.drop_succ_cons, List.drop_zero]
            repeat (first
              | (refine HeadC.val (by rfl) ?_
                 apply Exists.intro
                 refine ⟨fun w' hw' => ?_, ?_⟩
                 · ((go_simp) <;> (try go_ints) <;> with_reducible rfl)
                 try simp only [Act.put, List.setIfInBounds_toArray, List.set_cons_zero, List.set_cons_succ])
              | (refine HeadC.shut (by rfl) ?_
                 try simp only [Act.put, List.setIfInBounds_toArray, List.set_cons_zero, List.set_cons_succ]))
            refine HeadC.nil ?_
            refine AllC.one 10 (by kernel_rfl) rfl ?_
            intro wg hg K hK
            go_simp
            replace hgW := Grew.trans hgW hg
            refine (HMi.out wg (Grew.trans hg30 hgW)).mono ?_
            rintro e w32 ⟨A32, c32, rfl, hown32, hg32⟩
            rw [HM0.out]
            replace hgW := Grew.trans hgW hg32
            refine hK.out _ _ hgW ?_
            clear hK K hg hg32 hown32
            try simp only [Act.put, List.setIfInBounds_toArray, List.set_cons_zero, List.set_cons_succ]
            refine AllC.head 11 3 (fuel := 1) (by first | exact fun h k => Grew.trans h k | exact fun h k => cls_grew h k) (hgW) (by rfl) (by kernel_rfl) ?_
            simp only [List.take_succ_cons, List.take_zero, List.drop_succ_cons, List.drop_zero]
            repeat (first
              | (refine HeadC.val (by rfl) ?_
                 apply Exists.intro
                 refine ⟨fun w' hw' => ?_, ?_⟩
                 · ((go_simp) <;> (try go_ints) <;> with_reducible rfl)
                 try simp only [Act.put, List.setIfInBounds_toArray, List.set_cons_zero, List.set_cons_succ])
              | (refine HeadC.shut (by rfl) ?_
                 try simp only [Act.put, List.setIfInBounds_toArray, List.set_cons_zero, List.set_cons_succ]))
            refine HeadC.nil ?_
            refine AllC.tail 14 (by rfl) (by kernel_rfl) ?_
            intro wt hwt
            simp only [List.drop_succ_cons, List.drop_zero]
            have hgE := Grew.trans hg30 (Grew.trans hgW hwt)
            have HPe := Lib.hid (HPi.out.of hgE)
            have HKe := Lib.hid (HKi.out.of hgE)
            clear hgW hwt hgE hg30 hown30 hr30 h0 h1 HMi
            go_wp2_with fail
            go_roundw
            case rel => exact ⟨k + 1, MT + 40, MR2, Lr2, r2, L2, R2, by first | rfl | go_num, by omega, by omega, HMe, HID, HPe, HKe, HNFi⟩
            case measure => simp [intOf]; omega
          · have hml : 0 < r2.miss.length := List.length_pos_iff.2 hmm
            have HDn := Lib.hid (done37_no wr HPi.out.rcv hml)
            have hlb1 : r2.miss.length ≤ 1024 := HPi.out.ok.len.2.2.1
            have hmb : ((r2.miss.length : Int) == 0) = false := by simp; omega
            have hmd : decide ((r2.miss.length : Int) = 0) = false := by simp; omega
            clear hmm
            go_wp2_with fail
            refine HDn.out.mono ?_
            clear HDn
            rintro e w30 ⟨rfl, hg30⟩
            go_upto_region 20 with (fail)
            refine wp_region_g 14 (by kernel_rfl) ?_
            have hgW : Grew w30 w30.drew := grew_drew _
            refine AllC.head 0 10 (fuel := 5) (by first | exact fun h k => Grew.trans h k | exact fun h k => cls_grew h k) (hgW) (by rfl) (by kernel_rfl) ?_
            simp only [List.take_succ_cons, List.take_zero, List.drop_succ_cons, List.drop_zero]
            repeat (first
              | (refine HeadC.val (by rfl) ?_
                 apply Exists.intro
                 refine ⟨fun w' hw' => ?_, ?_⟩
                 · ((go_simp) <;> (try go_ints) <;> with_reducible rfl)
                 try simp only [Act.put, List.setIfInBounds_toArray, List.set_cons_zero, List.set_cons_succ])
              | (refine HeadC.shut (by rfl) ?_
                 try simp only [Act.put, List.setIfInBounds_toArray, List.set_cons_zero, List.set_cons_succ]))
            refine HeadC.nil ?_
            refine AllC.one 10 (by kernel_rfl) rfl ?_
            intro wg hg K hK
            go_simp
            replace hgW := Grew.trans hgW hg
            refine (HMi.out wg (Grew.trans hg30 hgW)).mono ?_
            rintro e w32 ⟨A32, c32, rfl, hown32, hg32⟩
            replace hgW := Grew.trans hgW hg32
            refine hK.out _ _ hgW ?_
            clear hK K hg hg32 hown32
            try simp only [Act.put, List.setIfInBounds_toArray, List.set_cons_zero, List.set_cons_succ]
            refine AllC.head 11 3 (fuel := 1) (by first | exact fun h k => Grew.trans h k | exact fun h k => cls_grew h k) (hgW) (by rfl) (by kernel_rfl) ?_
            simp only [List.take_succ_cons, List.take_zero, List.drop_succ_cons, List.drop_zero]
            repeat (first
              | (refine HeadC.val (by rfl) ?_
                 apply Exists.intro
                 refine ⟨fun w' hw' => ?_, ?_⟩
                 · ((go_simp) <;> (try go_ints) <;> with_reducible rfl)
                 try simp only [Act.put, List.setIfInBounds_toArray, List.set_cons_zero, List.set_cons_succ])
              | (refine HeadC.shut (by rfl) ?_
                 try simp only [Act.put, List.setIfInBounds_toArray, List.set_cons_zero, List.set_cons_succ]))
            refine HeadC.nil ?_
            refine AllC.tail 14 (by rfl) (by kernel_rfl) ?_
            intro wt hwt
            simp only [List.drop_succ_cons, List.drop_zero]
            have hgE := Grew.trans hg30 (Grew.trans hgW hwt)
            have HPe := Lib.hid (HPi.out.of hgE)
            have HKe := Lib.hid (HKi.out.of hgE)
            clear hgW hwt hgE hg30 h0 h1 HMi
            go_wp2_with fail
            go_roundw
            case rel => exact ⟨k + 1, MT + 40, MR2, Lr2, r2, L2, R2, by first | rfl | go_num, by omega, by omega, HMe, HID, HPe, HKe, HNFi⟩
            case measure => simp [intOf]; omega
    · obtain rfl : k = 8 := by omega
      have HBe := Lib.hid (HBl.out _ HP.out.ch)
      clear HP HBX
      go_wp2_with fail
      go_ret
      exact ⟨rfl, HBe.out⟩
end Go.Proofs.Ytpoiejgoongllaa
