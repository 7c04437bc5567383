/-
  stockyardlaw37.TransferResumes returns true.
-/
import Derived.Test.YtpoiejgoongllaaRes37
namespace Go.Proofs.Ytpoiejgoongllaa
set_option linter.unusedVariables false
set_option linter.unusedSimpArgs false
set_option linter.unnecessarySimpa false
open Go.RowKit
attribute [local go_sem ↓] Go.wp_at_zero Go.wp_at_succ

set_option maxHeartbeats 1000000 in
theorem sameIDs37_yes (A A2 : Option Addr) (cap cap2 B : Nat) (l : List IdZ) (w : World) (hr : Row w B A (idsC l)) (hs : Row w B A2 (idsC l)) (hm : l.length ≤ 9223372036854775807) :
    Calls Try.prog 26 #[.slice A l.length cap, .slice A2 l.length cap2] w fun e w' => e = .returned (.bool true) ∧ Grew w w' := by
  go_enter Try.func26, Try.ntmps26
  go_wp2_with fail
  go_loopw [5] (fun i wr => ∃ k : Nat, k ≤ l.length ∧ i = .int .i64 k ∧ Drawn w wr) (fun i _ => l.length - (intOf i).toNat)
  case atStart => exact ⟨0, Nat.zero_le _, rfl, Drawn.refl _⟩
  case round =>
    obtain ⟨k, hk, rfl, hd⟩ := hrel
    by_cases hlt : k < l.length
    · obtain ⟨ad, rfl, _, d0, d1⟩ := ids_at (hr.keep (w' := wr) fun p _ => hd.cell p) hlt
      obtain ⟨ad2, rfl, _, f0, f1⟩ := ids_at (hs.keep (w' := wr) fun p _ => hd.cell p) hlt
      generalize l[k] = x at *
      obtain ⟨x1, x2⟩ := x
      simp only at d0 d1 f0 f1
      go_wp2_with fail
      go_quiet (fail)
      go_wp2
      go_roundw
      case rel => exact ⟨k + 1, by omega, by go_num, hd.drewN _⟩
      case measure => simp [intOf]; omega
    · go_wp2_with fail
      go_ret
      exact ⟨rfl, hd.below _⟩
theorem srv_rightN {ps : List Part} (hd : DistP ps) {x : IdZ} (hx : x ∈ idsOf ps) {n : Nat} (hn : n < (txt ps x).length) : srvO (rightC ps) 1 x (n : Int) = some (ansZ n (txt ps x)) := by
  obtain ⟨_, h, _⟩ := txt_id hd hx
  unfold srvO
  rw [if_pos rfl, h]
  show ansO _ _ = _
  unfold ansO
  rw [if_neg (by omega), show ((n : Nat) : Int).toNat = n by omega]
set_option maxRecDepth 100000 in
set_option maxHeartbeats 8000000 in
theorem lawTRes_any (A : Option Addr) (cap : Nat) (ls : List Int) (w : World) (hr : Row w w.heap.size A (ls.map (.int .i64))) (hz : ∀ z ∈ ls, -9223372036854775808 ≤ z ∧ z ≤ 9223372036854775807) (hm : ls.length ≤ 9223372036854775807) :
    Calls Try.prog 4 #[.slice A ls.length cap] w fun e w' => e = .returned (.bool true) ∧ Below w.heap.size w w' := by
  have hT := Tp.new (cap := cap) hr (Nat.le_refl _) hz hm
  have g0 := grew_alloc w (.cells #[.slice A ls.length cap, .int .i64 0] 25)
  have hch0 : Ch (At w.heap.size) w (w.alloc (.cells #[.slice A ls.length cap, .int .i64 0] 25)) := Ch.of_below g0
  clear hz g0 hr
  go_enter Try.func4, Try.ntmps4
  go_wp2_with fail
  generalize w.alloc (.cells #[.slice A ls.length cap, .int .i64 0] 25) = w1 at *
  refine (pieces37_any _ _ _ 5 _ hT (by omega) (by omega)).mono ?_
  rintro e w2 ⟨Ap, cp, ps, rfl, hpl, hS, hownp, hTx, hT2, hch, hcaps⟩
  have hb2 : Grew w w2 := (hch0.trans hch).below (Nat.le_refl _) (fun i hi => by rw [hi]; exact Nat.le_refl _)
  have htl0 := hT.lt
  have h12 := hch.size
  clear hT hch hch0
  have HS := Lib.hid hS
  have HCaps := Lib.hid hcaps
  have HPm := Lib.hid (pcs_pm hS)
  clear hS hcaps
  go_wp2_with fail
  refine (distinct_any Ap cp w2.heap.size ps w2 (own_row hownp) hTx.lie (Nat.le_refl _) (fun p hp => (HPm.out p hp).1) (fun p hp => (HPm.out p hp).2) (by omega)).mono ?_
  rintro e w3 ⟨bd, rfl, hbd, hb⟩
  have hg3 : Grew w w3 := Grew.trans hb2 hb
  replace hownp := own_below hownp hb
  replace hTx := hTx.of hb
  replace hT2 := hT2.of hb
  have h23 := hb.size
  clear hb hb2
  cases bd with
  | false =>
    go_wp2_with fail
    go_ret
    exact ⟨rfl, hg3⟩
  | true =>
  have HD := Lib.hid (hbd rfl)
  clear hbd
  go_wp2_with fail
  refine (right37_any Ap cp ps w3 (own_row hownp) hTx.lie HPm.out (by omega)).mono ?_
  rintro e w4 ⟨A4, c4, rfl, hown4, hb⟩
  have hg4 := Grew.trans hg3 hb
  replace hownp := own_below hownp hb
  replace hTx := hTx.of hb
  replace hT2 := hT2.of hb
  have h34 := hb.size
  clear hb hg3
  have htot := pcs_tot HS.out
  have htb : totP ps ≤ 1073741824 := by omega
  go_wp2_with fail
  refine (refOf25_any Ap cp _ _ ps w4 hownp hTx (fun p hp => (HPm.out p hp).1) (by omega) htb).mono ?_
  rintro e w5 ⟨A5, c5, rfl, hown5, hb⟩
  rw [totP_of]
  have hM := Blk.new w5 33 #[.int .i64 (totP ps : Nat), .slice A5 ps.length c5]
  have gM := grew_alloc w5 (.cells #[.int .i64 (totP ps : Nat), .slice A5 ps.length c5] 33)
  have hgb := Grew.trans hb gM
  have hg6 := Grew.trans hg4 hgb
  replace hownp := own_below hownp hgb
  replace hown4 := own_below hown4 hgb
  replace hown5 := own_below hown5 gM
  replace hTx := hTx.of hgb
  replace hT2 := hT2.of hgb
  have h45 := hb.size
  have hgt : w.heap.size < w5.heap.size := by omega
  clear hb gM hgb hg4
  go_wp2_with fail
  generalize w5.alloc (.cells #[.int .i64 (totP ps : Nat), .slice A5 ps.length c5] 33) = w6 at *
  generalize w5.heap.size = gm at *
  have hl7 : ¬ At w.heap.size gm := fun h => by have h2 : gm = w.heap.size := h; omega
  have HNB := tape_noBytes' hT2
  have HSm := some37_no w.heap.size w.heap.size _ _ A4 c4 (rightC ps) w6 hT2 (by rw [rightC_length]; exact hown4) (by rw [rightC_length]; omega) (by omega)
  unfold Some37Res at HSm
  rw [rightC_length] at HSm
  refine HSm.mono ?_
  clear HSm
  rintro e w7 ⟨A7, c7, qs, rfl, hql, hqm, hown7, hT7, hch7⟩
  have hsz7 := hch7.size
  have hM7 := hM.ch hch7 hl7
  have hgm6 : gm < w6.heap.size := hM.lt
  have htne : ∀ {bs n c : Nat} {A : Option Addr} {e : TypeId} {sz : Nat} {xs : List Value}, w6.ownsRow bs e sz (.slice A n c) n xs → w.heap.size < bs → w7.ownsRow bs e sz (.slice A n c) n xs := fun ho hb => own_ch ho hch7 (fun i hi h => by have := own_lt ho i hi; have h' : i = w.heap.size := h; omega)
  have hown5' := htne hown5 (by omega)
  have hown4' := htne hown4 (by omega)
  have hownp' := htne hownp (by omega)
  have hTg := hTx.ch hch7 HNB
  have HNB7 := tape_noBytes' hT7
  obtain ⟨hin1, hin2⟩ := right_in hTg HCaps.out HS.out hqm
  have hgw : Ch (At w.heap.size) w w7 := (Ch.of_below hg6).trans hch7
  have hbw : Below w.heap.size w w7 := hgw.below (Nat.le_refl _) (fun k h => by have h2 : k = w.heap.size := h; omega)
  have hgm7 : gm < w7.heap.size := hM7.lt
  have hlt7 : w.heap.size < w7.heap.size := by omega
  have HNBS : NoBytes w7 (fun i => i = w.heap.size ∨ w7.heap.size ≤ i) := fun i cs fr hi => by
    rcases hi with hi | hi
    · exact HNB7 i cs fr hi
    · rw [Array.getElem?_eq_none hi]; simp
  -- what is old stays
  have HKeep : ∀ {bs n c : Nat} {A : Option Addr} {e : TypeId} {sz : Nat} {xs : List Value}, w7.ownsRow bs e sz (.slice A n c) n xs → w.heap.size < bs → ∀ W, Ch (fun i => i = w.heap.size ∨ w7.heap.size ≤ i) w7 W → W.ownsRow bs e sz (.slice A n c) n xs := fun ho hb W hW => own_ch ho hW (fun i hi h => by
    have h1 := own_lt ho i hi
    have h2 := (ho.lt i hi).2
    have h' : i = w.heap.size ∨ w7.heap.size ≤ i := h
    rcases h' with h | h <;> omega)
  have HOld := Lib.hid (fun W (hW : Ch (fun i => i = w.heap.size ∨ w7.heap.size ≤ i) w7 W) => (show (Row W W.heap.size A5 (idsC (idsOf ps)) ∧ Row W W.heap.size A4 (chsC (rightC ps)) ∧ ChsIn W (rightC ps) ∧ Row W W.heap.size Ap (ps.map Part.v) ∧ Lie W W.heap.size ps) ∧ Row W W.heap.size A7 (chsC qs) ∧ ChsIn W qs ∧ Blk W gm 33 #[.int .i64 (totP ps : Nat), .slice A5 ps.length c5] ∧ Below w.heap.size w W from by
    have hT' := hTg.ch hW HNBS
    refine ⟨⟨own_row (HKeep hown5' (by omega) W hW), own_row (HKeep hown4' (by omega) W hW), (right_in hT' HCaps.out HS.out (fun q hq => hq)).1, own_row (HKeep hownp' (by omega) W hW), hT'.lie⟩, own_row (HKeep hown7 (by omega) W hW), (right_in hT' HCaps.out HS.out hqm).1, hM7.ch hW (fun h => by have h' : gm = w.heap.size ∨ w7.heap.size ≤ gm := h; rcases h' with h | h <;> omega), Below.trans (B := w.heap.size) hbw (hW.below (by omega) (fun i h => by have h' : i = w.heap.size ∨ w7.heap.size ≤ i := h; rcases h' with h | h <;> omega))⟩))
  have HQ := Lib.hid hqm
  have HW := Lib.hid hin2
  have HWa := Lib.hid (right_in hTg HCaps.out HS.out (fun q hq => hq)).2
  have HRz := Lib.hid (ResI.zero HD.out (fun p hp => (HS.out p hp).len.1) (clean_recv HD.out HQ.out (pcs_chk HS.out (by omega)) (pcs_wf HS.out) (fun p hp => (HPm.out p hp).1)))
  have HChk := Lib.hid (pcs_chk HS.out (by omega))
  have htl7 := hT7.lt
  clear hch7 hown4 hown5 hownp hTx hT2 hM HNB HNB7 HNBS hg6 hl7 hin1 hin2 hqm hTg hown7 hown5' hown4' hownp' htne HKeep hgw hM7 hbw
  obtain ⟨o1, o2, o3, o4, o5⟩ := HOld.out w7 (Ch.refl _ _)
  have m0 := (o4.cell 0).trans (show _ = some (.int .i64 (totP ps : Nat)) from rfl)
  have m1 := (o4.cell 1).trans (show _ = some (.slice A5 ps.length c5) from rfl)
  have HR := receive37_any (totP ps) A5 c5 (idsOf ps) A7 c7 qs w7 o1.1 (pcs_wf HS.out) (by rw [idsOf_length]; omega) o2 o3 HW.out (by omega)
  unfold RecvRes at HR
  rw [idsOf_length] at HR
  clear o1 o2 o3 o4 o5
  have HR' := Lib.hid HR
  have HT7 := Lib.hid hT7
  clear HR hT7
  go_wp2_with fail
  refine HR'.out.mono ?_
  clear HR' m0 m1
  rintro e w8 ⟨hg8, hif⟩
  rw [if_pos HChk.out] at hif
  obtain ⟨g, L0, rfl, hI⟩ := hif
  have HI := Lib.hid hI
  have HG8 := Lib.hid hg8
  clear hI hg8
  go_wp2_with fail
  refine (known37_any _).mono ?_
  rintro e w9 ⟨rfl, hb⟩
  have HI9 := Lib.hid (HI.out.of hb)
  have HG9 := Lib.hid (HG8.out.trans hb)
  clear hb HI HG8
  have hHT := Lib.hid (HT7.out.of HG9.out)
  clear HT7
  go_wp2_with fail
  refine (tapeNext_any _ _ _ 3 _ hHT.out (by omega) (by omega)).mono ?_
  rintro e w10 ⟨x1, rfl, hx1, hT10, hch10⟩
  have y1 : x1 < 3 := by omega
  have hc7 : Ch (fun i => i = w.heap.size ∨ w7.heap.size ≤ i) w7 w10 := (Ch.of_below HG9.out).trans (hch10.mono (fun i _ h => .inl h))
  have hI10 := HI9.out.ch hch10 (fun i hi _ h => by have h' : i = w.heap.size := h; omega)
  have HI10 := Lib.hid hI10
  have HT10 := Lib.hid hT10
  have HC7 := Lib.hid hc7
  clear hI10 hT10 hc7 hch10 hx1 hHT HI9
  go_wp2_with fail
  go_loopw [10] (fun v wr => ∃ (k M MT : Nat) (L : RcL) (r : Rcv), k ≤ 2 ∧ v = .int .i64 k ∧ RcvIs wr w7.heap.size g M L r ∧ ResI ps qs r ∧ M ≤ 5 + 20 * (2 - k) ∧ Tp wr w.heap.size w.heap.size MT ∧ MT ≤ 100 + 20 * (2 - k) ∧ Ch (fun i => i = w.heap.size ∨ w7.heap.size ≤ i) w7 wr) (fun v _ => (intOf v).toNat)
  case atStart => exact ⟨x1, qs.length, _, L0, _, by omega, rfl, HI10.out, HRz.out, by omega, HT10.out, by omega, HC7.out⟩
  case round =>
    clear HI10 HT10 HC7 HRz
    obtain ⟨k, M, MT, L, r, hk, rfl, hI, hR, hM, hT, hMT, hch⟩ := hrel
    have hs0 := hch.size
    by_cases hk0 : 0 < k
    · obtain ⟨k', rfl⟩ : ∃ k', k = k' + 1 := ⟨k - 1, by omega⟩
      have hk0I : (0 : Int) < ((k' + 1 : Nat) : Int) := by omega
      have HI := Lib.hid hI
      have HR := Lib.hid hR
      have HCh := Lib.hid hch
      have HTT := Lib.hid hT
      clear hI hR hch hT
      go_wp2_with fail
      refine (tapeNext_any _ _ _ 4 _ HTT.out (by omega) (by omega)).mono ?_
      rintro e w11 ⟨x2, rfl, hx2, hT11, hch11⟩
      have y2 : x2 < 4 := by omega
      have hI11 := HI.out.ch hch11 (fun i hi _ h => by have h' : i = w.heap.size := h; omega)
      have hc11 : Ch (fun i => i = w.heap.size ∨ w7.heap.size ≤ i) w7 w11 := HCh.out.trans (hch11.mono (fun i _ h => .inl h))
      have HA := ask37_any (1 + (x2 : Int)) _ hI11 HR.out.pre.clean.ok
      have HA' := Lib.hid HA
      have HI11 := Lib.hid hI11
      have HT11 := Lib.hid hT11
      have HC11 := Lib.hid hc11
      clear HA hI11 hT11 hc11 hch11 hx2 HI HCh HTT
      go_wp2_with fail
      refine HA'.out.mono ?_
      clear HA'
      rintro e w12 ⟨A12, c12, rfl, hownA, hgA⟩
      have hI12 := HI11.out.of hgA
      have hT12 := HT11.out.of hgA
      have hc12 := HC11.out.next hgA
      have hFlt := HI11.out.Flt
      have hs11 := HC11.out.size
      have hs12 := hgA.size
      have hll : (askL r (1 + (x2 : Int))).length ≤ 5 := by
        have h1 := HR.out.pre.clean.ok.cnt
        rw [HR.out.pre.clean.ids, idsOf_length] at h1
        unfold askL
        rw [List.length_take]
        omega
      have HLm : Hid (∀ y ∈ askL r (1 + (x2 : Int)), y ∈ r.miss) := Lib.hid (fun y hy => List.mem_of_mem_take hy)
      have HLn : Hid ((askL r (1 + (x2 : Int))).Nodup) := Lib.hid (HR.out.pre.clean.ok.nodup.sublist (List.take_sublist _ _))
      rw [askP_length] at hownA ⊢
      have HI12 := Lib.hid hI12
      have HT12 := Lib.hid hT12
      have HC12 := Lib.hid hc12
      have HFlt := Lib.hid hFlt
      clear hI12 hT12 hc12 hFlt hgA HI11 HT11 HC11
      generalize askL r (1 + (x2 : Int)) = l at *
      generalize w11.heap.size = h1 at *
      go_wp2_with fail
      go_loopw [12] (fun v wi => ∃ (i M' MT' : Nat) (L' : RcL) (r' : Rcv), i ≤ l.length ∧ v = .int .i64 i ∧ RcvIs wi w7.heap.size g M' L' r' ∧ ResI ps qs r' ∧ Hid (∀ q (hq : q < l.length), i ≤ q → l[q] ∈ r'.miss ∧ r'.pref l[q] = r.pref l[q]) ∧ M' ≤ M + 4 * i ∧ Tp wi w.heap.size w.heap.size MT' ∧ MT' ≤ MT + 1 + i ∧ Ch (fun i => i = w.heap.size ∨ w7.heap.size ≤ i) w7 wi ∧ Ch (fun x => x < h1 ∨ w12.heap.size ≤ x) w12 wi ∧ (∀ x, L'.F r' g x → x < h1 ∨ w12.heap.size ≤ x)) (fun v _ => l.length - (intOf v).toNat)
      case atStart => exact ⟨0, M, MT + 1, L, r, Nat.zero_le _, rfl, HI12.out, HR.out, Lib.hid (fun q hq _ => ⟨HLm.out _ (List.getElem_mem hq), rfl⟩), by omega, HT12.out, by omega, HC12.out, Ch.refl _ _, fun x hx => .inl (HFlt.out x hx)⟩
      case round =>
        clear HI12 HT12 HC12 HFlt
        obtain ⟨i, M', MT', L', r', hi, rfl, hI', hR', HRem, hM', hT', hMT', hch', hchA, hF⟩ := hrel
        by_cases hlt2 : i < l.length
        · have hltI2 : (i : Int) < (l.length : Int) := by omega
          obtain ⟨hxm, hxp⟩ := HRem.out i hlt2 (Nat.le_refl _)
          have hoA := own_row (own_ch hownA hchA (fun z hz h => by have h1 := own_lt hownA z hz; have h2 := (hownA.lt z hz).2; omega))
          obtain ⟨ad, hA, hbl, p0, p1, p2, p3, p4⟩ := pks_at hoA (k := i) (by rw [askP_length]; exact hlt2)
          have he : (askP r l)[i]'(by rw [askP_length]; exact hlt2) = ⟨1, l[i], ((r.pref l[i]).length : Int), ⟨none, 0, []⟩⟩ := List.getElem_map _
          rw [he] at p0 p1 p2 p3 p4
          simp only [Part.v, List.length_nil] at p0 p1 p2 p3 p4
          rw [← hxp] at p3
          have hxi : l[i] ∈ idsOf ps := by rw [← hR'.pre.clean.ids]; exact hR'.pre.clean.ok.sub _ hxm
          have hwx := pcs_wf HS.out _ hxi
          have hpl := (hR'.pre.pref _ hxm).2
          have hsrv := srv_rightN HD.out hxi hpl
          have hyb : Byt (ansZ (r'.pref l[i]).length (txt ps l[i])) := ansZ_byt (by
            obtain ⟨_, _, p, hp, e⟩ := txt_id HD.out hxi
            rw [e]; exact (HPm.out p hp).1) _
          have hyl : (ansZ (r'.pref l[i]).length (txt ps l[i])).length ≤ 1024 := by rw [ansZ_len]; omega
          have hTk := hR'.take HD.out (fun p hp => (HPm.out p hp).1) hxm
          obtain ⟨_, hPr, hMs⟩ := hR'.pre.take HD.out (fun p hp => (HPm.out p hp).1) hxm
          have HRem2 : Hid (∀ q (hq : q < l.length), i + 1 ≤ q → l[q] ∈ (takeR r' 2 l[i] ((r'.pref l[i]).length : Int) (ansZ (r'.pref l[i]).length (txt ps l[i]))).1.miss ∧ (takeR r' 2 l[i] ((r'.pref l[i]).length : Int) (ansZ (r'.pref l[i]).length (txt ps l[i]))).1.pref l[q] = r.pref l[q]) := Lib.hid (fun q hq hiq => by
            obtain ⟨a, b⟩ := HRem.out q hq (by omega)
            have hne : l[q] ≠ l[i] := nodup_ne HLn.out hlt2 hq (by omega)
            exact ⟨takeR_miss_ne a hne, by rw [hPr _ hne]; exact b⟩)
          have HRemN : Hid (∀ q (hq : q < l.length), i + 1 ≤ q → l[q] ∈ r'.miss ∧ r'.pref l[q] = r.pref l[q]) := Lib.hid (fun q hq hiq => HRem.out q hq (by omega))
          have HTk := Lib.hid hTk
          have HOk := Lib.hid hR'.pre.clean.ok
          have HRs := Lib.hid hR'
          clear hTk hPr hMs hR' hoA he hxp HRem hpl hxm
          generalize ansZ (r'.pref l[i]).length (txt ps l[i]) = ys at *
          generalize (r'.pref l[i]).length = pn at *
          generalize hx : l[i] = x at *
          clear hx
          obtain ⟨x1', x2'⟩ := x
          simp only at p1 p2
          obtain ⟨o1, _, _, _, _⟩ := HOld.out wr hch'
          have HSv := serve_any ⟨1, (x1', x2'), (pn : Int), ⟨none, 0, []⟩⟩ A4 c4 (rightC ps) wr o1.2.1 o1.2.2.1 (by rw [rightC_length]; omega)
          simp only at HSv
          rw [hsrv] at HSv
          unfold AnsRes at HSv
          simp only [rightC_length, Part.v, List.length_nil] at HSv
          have HSv' := Lib.hid HSv
          have HXw := Lib.hid hwx
          have HYb := Lib.hid hyb
          have HI' := Lib.hid hI'
          have HT' := Lib.hid hT'
          have HCh' := Lib.hid hch'
          have HChA := Lib.hid hchA
          have HF := Lib.hid hF
          have hsw := hch'.size
          clear HSv o1 hsrv hwx hyb hI' hT' hch' hchA hF hxi
          subst hA
          go_wp2_with fail
          refine HSv'.out.mono ?_
          clear HSv' p0 p1 p2 p3 p4
          rintro e w14 ⟨A14, c14, rfl, hown14, hg14⟩
          unfold pkV Part.v
          simp only
          have gB := grew_alloc w14 (.cells #[.int .i64 2, .int .u64 x1', .int .i64 x2', .int .i64 (pn : Int), .slice A14 ys.length c14] 55)
          have kB := Blk.new w14 55 #[.int .i64 2, .int .u64 x1', .int .i64 x2', .int .i64 (pn : Int), .slice A14 ys.length c14]
          have hgW : Grew wr _ := Grew.trans hg14 gB
          have hs14 := hg14.size
          have hsB := gB.size
          have HO14 := Lib.hid (own_below hown14 gB)
          have HKB := Lib.hid kB
          have HGW := Lib.hid hgW
          have hT14 := HT'.out.of hgW
          clear hown14 hg14 gB hgW kB
          go_wp2_with fail
          refine (tapeNext_any _ _ _ 4 _ hT14 (by omega) (by omega)).mono ?_
          rintro e w15 ⟨x3, rfl, hx3, hT15, hch15⟩
          have y3 : x3 < 4 := by omega
          have hs15 := hch15.size
          have hI15 := (HI'.out.of HGW.out).ch hch15 (fun q hq _ h => by have h' : q = w.heap.size := h; omega)
          have hC15 : Ch (fun i => i = w.heap.size ∨ w7.heap.size ≤ i) w7 w15 := (HCh'.out.next HGW.out).trans (hch15.mono (fun i _ h => .inl h))
          have htl1 : w.heap.size < h1 := by omega
          have hCA15 : Ch (fun x => x < h1 ∨ w12.heap.size ≤ x) w12 w15 := (HChA.out.next HGW.out).trans (hch15.mono (fun i _ h => .inl (by have h' : i = w.heap.size := h; omega)))
          by_cases hx0 : 0 < x3
          · have hx0I : (0 : Int) < (x3 : Int) := by omega
            have hO15 := own_ch HO14.out hch15 (fun z hz h => by have h1 := own_lt HO14.out z hz; have h2 : z = w.heap.size := h; omega)
            have kB15 := HKB.out.ch hch15 (fun h => by have h2 : w14.heap.size = w.heap.size := h; omega)
            have b0 := (kB15.cell 0).trans (show _ = some (.int .i64 2) from rfl)
            have b1 := (kB15.cell 1).trans (show _ = some (.int .u64 x1') from rfl)
            have b2 := (kB15.cell 2).trans (show _ = some (.int .i64 x2') from rfl)
            have b3 := (kB15.cell 3).trans (show _ = some (.int .i64 (pn : Int)) from rfl)
            have b4 := (kB15.cell 4).trans (show _ = some (.slice A14 ys.length c14) from rfl)
            have HT := take37_any ⟨2, (x1', x2'), (pn : Int), ⟨A14, c14, ys⟩⟩ _ hI15 HOk.out HXw.out (own_row hO15) HYb.out (by show ys.length ≤ _; omega) (by omega) (by omega)
            unfold TakeRes at HT
            simp only [Part.v] at HT
            have HTq := Lib.hid HT
            have HI15 := Lib.hid hI15
            have HC15 := Lib.hid hC15
            have HCA15 := Lib.hid hCA15
            have HT15 := Lib.hid hT15
            clear HT hO15 kB15 hI15 hC15 hCA15 hT15 hch15 hx3 HRs HRemN
            go_wp2_with fail
            refine HTq.out.mono ?_
            clear HTq b0 b1 b2 b3 b4
            rintro e w16 ⟨L16, rfl, S16⟩
            have hT16 := HT15.out.ch S16.ch (fun h => by have := HI15.out.Flo _ h; omega) (fun q h => by have := HI15.out.Flo q h; omega)
            have hC16 := HC15.out.trans (S16.ch.mono (fun q _ h => .inr (HI15.out.Flo q h)))
            have hCA16 := HCA15.out.trans (S16.ch.mono (fun q hq h => HF.out q h))
            have hF16 : ∀ z, L16.F _ g z → z < h1 ∨ w12.heap.size ≤ z := fun z hz => (S16.fr z hz).elim (fun h => HF.out z h) (fun h => .inr (by have := hCA16.size; have := S16.ch.size; have := HCA15.out.size; omega))
            have HSt := Lib.hid S16.is
            have HT16 := Lib.hid hT16
            have HC16 := Lib.hid hC16
            have HCA16 := Lib.hid hCA16
            have HF16 := Lib.hid hF16
            clear S16 hT16 hC16 hCA16 hF16
            go_wp2_with fail
            go_roundw
            case rel => exact ⟨i + 1, M' + 2, MT' + 1, L16, _, by omega, by go_num, HSt.out, HTk.out, HRem2, by omega, HT16.out, by omega, HC16.out, HCA16.out, HF16.out⟩
            case measure => simp [intOf]; omega
          · obtain rfl : x3 = 0 := by omega
            have HI15 := Lib.hid hI15
            have HC15 := Lib.hid hC15
            have HCA15 := Lib.hid hCA15
            have HT15 := Lib.hid hT15
            clear hI15 hC15 hCA15 hT15 hch15 hx3 HTk HRem2
            go_wp2_with fail
            go_roundw
            case rel => exact ⟨i + 1, M', MT' + 1, L', r', by omega, by go_num, HI15.out, HRs.out, HRemN, by omega, HT15.out, by omega, HC15.out, HCA15.out, HF.out⟩
            case measure => simp [intOf]; omega
        · obtain rfl : i = l.length := by omega
          have HI' := Lib.hid hI'
          have HR' := Lib.hid hR'
          have HC' := Lib.hid hch'
          have HT' := Lib.hid hT'
          clear hI' hR' hch' hT' hchA hF HRem
          go_wp2_with fail
          go_roundw
          case rel => exact ⟨k', M', MT', L', r', by omega, by go_num, HI'.out, HR'.out, by omega, HT'.out, by omega, HC'.out⟩
          case measure => simp [intOf]
    · obtain rfl : k = 0 := by omega
      have HCk := Lib.hid (chunks37_any _ hI hR.pre.clean.ok hR.recvIn)
      have HI := Lib.hid hI
      have HR := Lib.hid hR
      have HC := Lib.hid hch
      clear hI hR hch hT
      go_wp2_with fail
      refine HCk.out.mono ?_
      clear HCk
      rintro e wz ⟨Ag, cg, gs, rfl, hgz, howng, hging, hgG⟩
      have hsz0 := HC.out.size
      have hC0 := HC.out.next hgG
      obtain ⟨o1, o2, o3, o4, o5⟩ := HOld.out wz hC0
      have m0 := (o4.cell 0).trans (show _ = some (.int .i64 (totP ps : Nat)) from rfl)
      have m1 := (o4.cell 1).trans (show _ = some (.slice A5 ps.length c5) from rfl)
      have hrq := o2
      have hrg := own_row howng
      have hgl : gs.length ≤ 5 := by
        have h2 : gs.length = r.recv.length := by have h3 := congrArg List.length hgz; unfold gotZ at h3; rwa [List.length_map, List.length_map] at h3
        have h3 := HR.out.pre.clean.ok.cnt
        rw [HR.out.pre.clean.ids, idsOf_length] at h3
        omega
      obtain ⟨hgr1, hgr2, _⟩ := got_right HD.out HR.out hgz
      have HG1 := Lib.hid hgr1
      have HG2 := Lib.hid hgr2
      have HMs := Lib.hid (resumes_miss HD.out HR.out hgz (totP ps))
      have HWg : Hid (∀ q ∈ qs ++ gs, WfI q.id ∧ Byt q.p.zs) := Lib.hid (fun q hq => (List.mem_append.1 hq).elim (fun h => HW.out q h) (fun h => by
        obtain ⟨p, hp, e1, e2⟩ := hgr1 q h
        exact ⟨by rw [e1]; exact pcs_wf HS.out _ (by unfold idsOf; exact List.mem_map.2 ⟨p, hp, rfl⟩), by rw [e2]; exact (HPm.out p hp).1⟩))
      have HIn := Lib.hid (fun W (hg : Grew wz W) => (show ChsIn W (qs ++ gs) from fun q hq => (List.mem_append.1 hq).elim (fun h => (o3.up hg) q h) (fun h => (hging.up hg) q h)))
      have HIz := Lib.hid (HI.out.of hgG)
      have HC0 := Lib.hid hC0
      clear hgr1 hgr2 hC0 o1 o2 o3 o4 o5 HI HC hgG hsz0 hging
      go_upto_region 22 with (fail)
      refine wp_region_g 10 (by kernel_rfl) ?_
      have hgW : Grew wz wz.drew := grew_drew _
      refine AllC.head 0 2 (fuel := 9) (by first | exact fun h k => Grew.trans h k | exact fun h k => cls_grew h k) (hgW) (by rfl) (by kernel_rfl) ?_
      simp only [List.take_succ_cons, List.take_zero, List.drop_succ_cons, List.drop_zero]
      repeat (first
        | (refine HeadC.val (by rfl) ?_
           apply Exists.intro
           refine ⟨fun w' hw' => ?_, ?_⟩
           · (have hf_0 := cell_up hw' m0; have hf_1 := cell_up hw' m1; (go_simp) <;> (try go_ints) <;> with_reducible rfl)
           try simp only [Act.put, List.setIfInBounds_toArray, List.set_cons_zero, List.set_cons_succ])
        | (refine HeadC.shut (by rfl) ?_
           try simp only [Act.put, List.setIfInBounds_toArray, List.set_cons_zero, List.set_cons_succ]))
      refine HeadC.nil ?_
      refine AllC.head 3 1 (fuel := 8) (by first | exact fun h k => Grew.trans h k | exact fun h k => cls_grew h k) (hgW) (by rfl) (by kernel_rfl) ?_
      simp only [List.take_succ_cons, List.take_zero, List.drop_succ_cons, List.drop_zero]
      repeat (first
        | (refine HeadC.val (by rfl) ?_
           apply Exists.intro
           refine ⟨fun w' hw' => ?_, ?_⟩
           · ((go_simp) <;> (try go_ints) <;> with_reducible rfl)
           try simp only [Act.put, List.setIfInBounds_toArray, List.set_cons_zero, List.set_cons_succ])
        | (refine HeadC.shut (by rfl) ?_
           try simp only [Act.put, List.setIfInBounds_toArray, List.set_cons_zero, List.set_cons_succ]))
      refine HeadC.nil ?_
      refine AllC.one 2 (by kernel_rfl) rfl ?_
      intro wg hg K hK
      replace hgW := Grew.trans hgW hg
      have hs1 := hgW.size
      refine step_append_row rfl (.const (.slice none 0 0)) (.tmp 92) rfl wz.heap.size elem_chunk (by rfl) (World.ownsRow_nil _ _ _ _) _ (by rfl) (by rw [chsC_len]) (hrq.up hgW (Nat.le_refl _)) (ones_chs qs) (by unfold maxLen; omega) (by omega) hs1 ?_
      intro A30 c30 w30 hown30 hg30 _
      have hgB : Below wz.heap.size wz w30 := hgW.grown hg30 hs1 (fun q hq => by cases hq)
      refine hK.out _ _ hgB ?_
      clear hK K hg hgW hg30
      try simp only [Act.put, List.setIfInBounds_toArray, List.set_cons_zero, List.set_cons_succ]
      refine AllC.one 4 (by kernel_rfl) rfl ?_
      clear hs1
      intro wg hg K hK
      have hgC := Grew.trans hgB hg
      have hs1 := hgC.size
      have hown31 := own_below hown30 hg
      refine step_append_row rfl (.tmp 93) (.tmp 94) rfl wz.heap.size elem_chunk (by rfl) hown31 _ (by rfl) (by rw [chsC_len]) (hrg.up hgC (Nat.le_refl _)) (ones_chs gs) (by unfold maxLen; omega) (by omega) hs1 ?_
      intro A32 c32 w32 hown32 hg32 _
      have hgD : Below wz.heap.size wz w32 := hgC.grown hg32 hs1 (own_lt hown31)
      refine hK.out _ _ hgD ?_
      clear hK K hg hgB hgC hg32 hown30 hown31
      try simp only [Act.put, List.setIfInBounds_toArray, List.set_cons_zero, List.set_cons_succ]
      refine AllC.one 5 (by kernel_rfl) rfl ?_
      intro wg hg K hK
      go_simp
      replace hgD := Grew.trans hgD hg
      have hrA : Row wg wg.heap.size A32 (chsC (qs ++ gs)) := by rw [chsC_append]; exact own_row (own_below hown32 hg)
      have HRc := receive37_any (totP ps) A5 c5 (idsOf ps) A32 c32 (qs ++ gs) wg ((HOld.out wg (HC0.out.next hgD)).1.1) (pcs_wf HS.out) (by rw [idsOf_length]; omega) hrA (HIn.out wg hgD) HWg.out (by rw [List.length_append]; omega)
      unfold RecvRes at HRc
      rw [idsOf_length, List.length_append] at HRc
      try rw [Nat.zero_add]
      refine HRc.mono ?_
      clear HRc
      rintro e w34 ⟨hg34, hif⟩
      rw [if_pos HChk.out] at hif
      obtain ⟨g2, L2, rfl, hI2⟩ := hif
      replace hgD := Grew.trans hgD hg34
      refine hK.out _ _ hgD ?_
      clear hK K hg hg34 hrA hown32 hs1
      try simp only [Act.put, List.setIfInBounds_toArray, List.set_cons_zero, List.set_cons_succ]
      refine AllC.head 6 4 (fuel := 1) (by first | exact fun h k => Grew.trans h k | exact fun h k => cls_grew h k) (hgD) (by rfl) (by kernel_rfl) ?_
      simp only [List.take_succ_cons, List.take_zero, List.drop_succ_cons, List.drop_zero]
      repeat (first
        | (refine HeadC.val (by rfl) ?_
           apply Exists.intro
           refine ⟨fun w' hw' => ?_, ?_⟩
           · ((go_simp) <;> (try go_ints) <;> with_reducible rfl)
           try simp only [Act.put, List.setIfInBounds_toArray, List.set_cons_zero, List.set_cons_succ])
        | (refine HeadC.shut (by rfl) ?_
           try simp only [Act.put, List.setIfInBounds_toArray, List.set_cons_zero, List.set_cons_succ]))
      refine HeadC.nil ?_
      refine AllC.tail 10 (by rfl) (by kernel_rfl) ?_
      intro wt hwt
      simp only [List.drop_succ_cons, List.drop_zero]
      replace hgD := Grew.trans hgD hwt
      have HI2 := Lib.hid (hI2.of hwt)
      have HGD := Lib.hid hgD
      clear hI2 hwt hgD m0 m1
      have HSok : Hid (RcOk (recvR (totP ps) (idsOf ps) (qs ++ gs))) := Lib.hid (recvR_ok HChk.out (pcs_wf HS.out) (fun c hc => (HWg.out c hc).2))
      have HM1 := missing37_any _ HI2.out HSok.out
      rw [HMs.out] at HM1
      have HM1' := Lib.hid HM1
      clear HM1
      have hrm : r.miss.length ≤ 1024 := HR.out.pre.clean.ok.len.2.2.1
      go_wp2_with fail
      refine HM1'.out.mono ?_
      clear HM1'
      rintro e w40 ⟨A40, c40, rfl, hown40, hg40⟩
      have HI40 := Lib.hid (HI2.out.of hg40)
      have HM2 := Lib.hid (missing37_any _ ((HIz.out.of HGD.out).of hg40) HR.out.pre.clean.ok)
      go_wp2_with fail
      refine HM2.out.mono ?_
      clear HM2
      rintro e w41 ⟨A41, c41, rfl, hown41, hg41⟩
      have HI41 := Lib.hid (HI40.out.of hg41)
      have HSm := Lib.hid (sameIDs37_yes A40 A41 c40 c41 w41.heap.size r.miss w41 (own_row (own_below hown40 hg41)) (own_row hown41) (by omega))
      have HG41 := Lib.hid (HGD.out.trans (hg40.trans hg41))
      clear hown40 hown41 hg40 hg41 HI40 HI2 HGD
      go_wp2_with fail
      refine HSm.out.mono ?_
      clear HSm
      rintro e w42 ⟨rfl, hg42⟩
      have HCs := Lib.hid (chunks37_any _ (HI41.out.of hg42) HSok.out (recvIn_recvR _ _ _))
      have HG42 := Lib.hid (HG41.out.trans hg42)
      clear hg42 HI41 HG41
      go_wp2_with fail
      refine HCs.out.mono ?_
      clear HCs
      rintro e w43 ⟨A43, c43, q43, rfl, hz43, _, _, hg43⟩
      have hq43 : q43 = [] := by
        have h := congrArg List.length hz43
        rw [List.length_map] at h
        exact List.eq_nil_of_length_eq_zero h
      subst hq43
      have HG43 := Lib.hid (HG42.out.trans hg43)
      have HQg := Lib.hid (own_row howng)
      clear hg43 HG42 hz43 hrm
      simp only [List.length_nil]
      go_wp2_with fail
      go_loopw [18] (fun v wr => ∃ k : Nat, k ≤ gs.length ∧ v = .int .i64 k ∧ Grew w43 wr) (fun v _ => gs.length - (intOf v).toNat)
      case atStart => exact ⟨0, Nat.zero_le _, rfl, Grew.refl _⟩
      case round =>
        obtain ⟨k, hk, rfl, hgk⟩ := hrel
        have hGz := HG43.out.trans hgk
        by_cases hlt : k < gs.length
        · obtain ⟨ad, hA, hbl, d0, d1, d2⟩ := chs_at (hrg.below hGz (Nat.le_refl _)) hlt
          have hci := (HIn.out _ hGz) _ (List.mem_append_right _ (List.getElem_mem hlt))
          obtain ⟨e1, e2⟩ := HG2.out _ (List.getElem_mem hlt)
          have hby := (HWg.out _ (List.mem_append_right _ (List.getElem_mem hlt))).2
          have hnm : ¬ gs[k].id ∈ qs.map ChZ.id := fun h => by
            obtain ⟨q, hq, e⟩ := List.mem_map.1 h
            obtain ⟨p, hp, e3, e4⟩ := rightZ_of HQ.out q hq
            unfold lackH at e2
            have h2 := (List.mem_filter.1 e2).2
            have h3 : (haveC qs gs[k].id).isSome = true := by
              unfold haveC
              rw [Option.isSome_map, List.find?_isSome]
              exact ⟨q, hq, by rw [decide_eq_true_eq]; exact ⟨e, by rw [e4, ← e3, e]⟩⟩
            cases hh : haveC qs gs[k].id with
            | none => rw [hh] at h3; cases h3
            | some zs => rw [hh] at h2; cases h2
          generalize gs[k] = x at *
          obtain ⟨xi, ⟨xA, xc, xz⟩⟩ := x
          simp only at d0 d1 d2 hci e1 hby hnm
          subst e1
          obtain ⟨hr1, hr2, hr3⟩ := hci
          have HNm := Lib.hid hnm
          have HBy := Lib.hid hby
          have HR1 := Lib.hid hr1
          have HO7 := Lib.hid (fun W (hW : Grew wr W) => (HOld.out W ((HC0.out.next hGz).next hW)).2.1)
          have hcI : (k : Int) < (gs.length : Int) := by omega
          unfold idOf at d0 d1
          simp only at d0 d1
          clear e2 hnm hby hr1 hr2
          subst hA
          go_wp2_with fail
          refine wp_region_g 21 (by kernel_rfl) ?_
          refine AllC.head 0 14 (fuel := 8) (by first | exact fun h k => Grew.trans h k | exact fun h k => cls_grew h k) (grew_drew _) (by rfl) (by kernel_rfl) ?_
          simp only [List.take_succ_cons, List.take_zero, List.drop_succ_cons, List.drop_zero]
          repeat (first
            | (refine HeadC.val (by rfl) ?_
               apply Exists.intro
               refine ⟨fun w' hw' => ?_, ?_⟩
               · (have hf_0 := cell_up hw' d0; have hf_1 := cell_up hw' d1; have hf_2 := cell_up hw' d2; (go_simp) <;> (try go_ints) <;> with_reducible rfl)
               try simp only [Act.put, List.setIfInBounds_toArray, List.set_cons_zero, List.set_cons_succ])
            | (refine HeadC.call (by rfl) ?_
               apply Exists.intro; apply Exists.intro
               refine ⟨fun w' hw' => ?_, ?_⟩
               · (have hf_0 := cell_up hw' d0; have hf_1 := cell_up hw' d1; have hf_2 := cell_up hw' d2; (go_simp) <;> first | (refine ⟨?_, ?_⟩ <;> with_reducible rfl) | with_reducible rfl)
               apply Exists.intro
               refine ⟨fun w' hw' => ?_, ?_⟩
               · (first | exact of_any xA xc w'.heap.size xz w' ((HR1.out.up hw' (Nat.le_refl _)).more hw'.size) (Nat.le_refl _) HBy.out (by omega))
               try simp only [Act.put, List.setIfInBounds_toArray, List.set_cons_zero, List.set_cons_succ])
            | (refine HeadC.shut (by rfl) ?_
               try simp only [Act.put, List.setIfInBounds_toArray, List.set_cons_zero, List.set_cons_succ]))
          refine HeadC.nil ?_
          have hgW0 : Grew wr wr.drew := grew_drew wr
          refine AllC.head 15 5 (fuel := 3) (by first | exact fun h k => Grew.trans h k | exact fun h k => cls_grew h k) (hgW0) (by rfl) (by kernel_rfl) ?_
          simp only [List.take_succ_cons, List.take_zero, List.drop_succ_cons, List.drop_zero]
          repeat (first
            | (refine HeadC.val (by rfl) ?_
               apply Exists.intro
               refine ⟨fun w' hw' => ?_, ?_⟩
               · (have hf_0 := cell_up hw' d0; have hf_1 := cell_up hw' d1; (go_simp) <;> (try go_ints) <;> with_reducible rfl)
               try simp only [Act.put, List.setIfInBounds_toArray, List.set_cons_zero, List.set_cons_succ])
            | (refine HeadC.shut (by rfl) ?_
               try simp only [Act.put, List.setIfInBounds_toArray, List.set_cons_zero, List.set_cons_succ]))
          refine HeadC.nil ?_
          refine AllC.one 14 (by kernel_rfl) rfl ?_
          intro wg hg K hK
          go_simp
          have hgW : Grew wr wg := (grew_drew wr).trans hg
          refine (idsOf37_any A7 c7 qs wg (HO7.out wg hgW) (by omega)).mono ?_
          rintro e w50 ⟨A50, c50, rfl, hown50, hb⟩
          replace hgW := Grew.trans hgW hb
          refine hK.out _ _ hgW ?_
          clear hK K hg hb
          try simp only [Act.put, List.setIfInBounds_toArray, List.set_cons_zero, List.set_cons_succ]
          refine AllC.one 20 (by kernel_rfl) rfl ?_
          intro wg hg K hK
          go_simp
          have HHs := refHas25_any A50 c50 wg.heap.size (qs.map ChZ.id) (idOf xz) wg (own_row (own_below hown50 hg)) (Nat.le_refl _) (by rw [List.length_map]; omega)
          rw [decide_eq_false HNm.out, List.length_map] at HHs
          refine HHs.mono ?_
          rintro e w51 ⟨rfl, hb⟩
          replace hgW := Grew.trans hgW (Grew.trans hg hb)
          refine hK.out _ _ hgW ?_
          clear hK K hg hb HHs hown50
          try simp only [Act.put, List.setIfInBounds_toArray, List.set_cons_zero, List.set_cons_succ]
          refine AllC.tail 21 (by rfl) (by kernel_rfl) ?_
          intro wt hwt
          simp only [List.drop_succ_cons, List.drop_zero]
          have HGk := Lib.hid (hgk.trans (hgW.trans hwt))
          clear hgW hwt d0 d1 d2
          go_wp2_with fail
          go_roundw
          case rel => exact ⟨k + 1, by omega, by go_num, HGk.out⟩
          case measure => simp [intOf]; omega
        · obtain rfl : k = gs.length := by omega
          have HGz := Lib.hid hGz
          clear hGz hgk
          obtain ⟨o1, o2, o3, o4, o5⟩ := HOld.out wr (HC0.out.next HGz.out)
          have m0 := (o4.cell 0).trans (show _ = some (.int .i64 (totP ps : Nat)) from rfl)
          have m1 := (o4.cell 1).trans (show _ = some (.slice A5 ps.length c5) from rfl)
          have hrq2 := o2
          have hrg2 := (hrg.below HGz.out (Nat.le_refl _)).more HGz.out.size
          clear o1 o2 o3 o4 o5
          go_upto_region 30 with (fail)
          refine wp_region_g 13 (by kernel_rfl) ?_
          have hgW : Grew wr wr.drew := grew_drew _
          refine AllC.head 0 2 (fuel := 12) (by first | exact fun h k => Grew.trans h k | exact fun h k => cls_grew h k) (hgW) (by rfl) (by kernel_rfl) ?_
          simp only [List.take_succ_cons, List.take_zero, List.drop_succ_cons, List.drop_zero]
          repeat (first
            | (refine HeadC.val (by rfl) ?_
               apply Exists.intro
               refine ⟨fun w' hw' => ?_, ?_⟩
               · (have hf_0 := cell_up hw' m0; have hf_1 := cell_up hw' m1; (go_simp) <;> (try go_ints) <;> with_reducible rfl)
               try simp only [Act.put, List.setIfInBounds_toArray, List.set_cons_zero, List.set_cons_succ])
            | (refine HeadC.shut (by rfl) ?_
               try simp only [Act.put, List.setIfInBounds_toArray, List.set_cons_zero, List.set_cons_succ]))
          refine HeadC.nil ?_
          refine AllC.head 3 1 (fuel := 11) (by first | exact fun h k => Grew.trans h k | exact fun h k => cls_grew h k) (hgW) (by rfl) (by kernel_rfl) ?_
          simp only [List.take_succ_cons, List.take_zero, List.drop_succ_cons, List.drop_zero]
          repeat (first
            | (refine HeadC.val (by rfl) ?_
               apply Exists.intro
               refine ⟨fun w' hw' => ?_, ?_⟩
               · ((go_simp) <;> (try go_ints) <;> with_reducible rfl)
               try simp only [Act.put, List.setIfInBounds_toArray, List.set_cons_zero, List.set_cons_succ])
            | (refine HeadC.shut (by rfl) ?_
               try simp only [Act.put, List.setIfInBounds_toArray, List.set_cons_zero, List.set_cons_succ]))
          refine HeadC.nil ?_
          refine AllC.head 5 1 (fuel := 10) (by first | exact fun h k => Grew.trans h k | exact fun h k => cls_grew h k) (hgW) (by rfl) (by kernel_rfl) ?_
          simp only [List.take_succ_cons, List.take_zero, List.drop_succ_cons, List.drop_zero]
          repeat (first
            | (refine HeadC.val (by rfl) ?_
               apply Exists.intro
               refine ⟨fun w' hw' => ?_, ?_⟩
               · ((go_simp) <;> (try go_ints) <;> with_reducible rfl)
               try simp only [Act.put, List.setIfInBounds_toArray, List.set_cons_zero, List.set_cons_succ])
            | (refine HeadC.shut (by rfl) ?_
               try simp only [Act.put, List.setIfInBounds_toArray, List.set_cons_zero, List.set_cons_succ]))
          refine HeadC.nil ?_
          refine AllC.one 2 (by kernel_rfl) rfl ?_
          intro wg hg K hK
          replace hgW := Grew.trans hgW hg
          have hs1 := hgW.size
          refine step_append_row rfl (.const (.slice none 0 0)) (.tmp 149) rfl wr.heap.size elem_chunk (by rfl) (World.ownsRow_nil _ _ _ _) _ (by rfl) (by rw [chsC_len]) (hrq2.up hgW (Nat.le_refl _)) (ones_chs qs) (by unfold maxLen; omega) (by omega) hs1 ?_
          intro A30 c30 w30 hown30 hg30 _
          have hgB : Below wr.heap.size wr w30 := hgW.grown hg30 hs1 (fun q hq => by cases hq)
          refine hK.out _ _ hgB ?_
          clear hK K hg hgW hg30
          try simp only [Act.put, List.setIfInBounds_toArray, List.set_cons_zero, List.set_cons_succ]
          refine AllC.one 4 (by kernel_rfl) rfl ?_
          clear hs1
          intro wg hg K hK
          have hgC := Grew.trans hgB hg
          have hs1 := hgC.size
          have hown31 := own_below hown30 hg
          refine step_append_row rfl (.tmp 150) (.tmp 151) rfl wr.heap.size elem_chunk (by rfl) hown31 _ (by rfl) (by rw [chsC_len]) (hrg2.up hgC (Nat.le_refl _)) (ones_chs gs) (by unfold maxLen; omega) (by omega) hs1 ?_
          intro A32 c32 w32 hown32 hg32 _
          have hgD : Below wr.heap.size wr w32 := hgC.grown hg32 hs1 (own_lt hown31)
          refine hK.out _ _ hgD ?_
          clear hK K hg hgB hgC hg32 hown30 hown31
          try simp only [Act.put, List.setIfInBounds_toArray, List.set_cons_zero, List.set_cons_succ]
          refine AllC.one 6 (by kernel_rfl) rfl ?_
          intro wg hg K hK
          go_simp
          replace hgD := Grew.trans hgD hg
          have hrA : Row wg wg.heap.size A32 (chsC (qs ++ gs)) := by rw [chsC_append]; exact own_row (own_below hown32 hg)
          obtain ⟨o1, o2, o3, o4, o5⟩ := HOld.out wg ((HC0.out.next HGz.out).next hgD)
          have HRn := run37_any (totP ps) A5 c5 (idsOf ps) A32 c32 (qs ++ gs) A4 c4 (rightC ps) 9 none 0 [] wg ⟨o1.1, hrA, HIn.out wg (HGz.out.trans hgD), o1.2.1, o1.2.2.1, .nil, fun f hf => (by cases hf)⟩
            ⟨pcs_wf HS.out, HWg.out, HWa.out, fun f hf => (by cases hf), by rw [idsOf_length]; omega, by rw [List.length_append]; omega, by rw [rightC_length]; omega, by simp⟩ (by omega) (by omega)
          simp only [idsOf_length, rightC_length, List.length_nil, List.length_append] at HRn
          try rw [Nat.zero_add]
          refine HRn.mono ?_
          clear HRn o1 o2 o3 o4 o5
          rintro e w60 ⟨hg60, hif⟩
          rw [if_pos HChk.out] at hif
          obtain ⟨n1, A60, c60, hRd, rfl, hown60⟩ := hif
          rw [List.map_nil] at hRd hown60
          obtain ⟨hme, hz⟩ := resumes_run HD.out (fun p hp => (HPm.out p hp).1) (fun p hp => ⟨(HS.out p hp).len.1, (HS.out p hp).len.2.1⟩) ((rightZ_of HQ.out).app HG1.out) HChk.out (pcs_wf HS.out) (by omega) hRd
          rw [hz] at hown60
          rw [List.map_nil, hz, decide_eq_true hme]
          replace hgD := Grew.trans hgD hg60
          refine hK.out _ _ hgD ?_
          clear hK K hg hg60 hrA hown32 hs1 hRd hme hz
          try simp only [Act.put, List.setIfInBounds_toArray, List.set_cons_zero, List.set_cons_succ]
          refine AllC.head 7 6 (fuel := 1) (by first | exact fun h k => Grew.trans h k | exact fun h k => cls_grew h k) (hgD) (by rfl) (by kernel_rfl) ?_
          simp only [List.take_succ_cons, List.take_zero, List.drop_succ_cons, List.drop_zero]
          repeat (first
            | (refine HeadC.val (by rfl) ?_
               apply Exists.intro
               refine ⟨fun w' hw' => ?_, ?_⟩
               · ((go_simp) <;> (try go_ints) <;> with_reducible rfl)
               try simp only [Act.put, List.setIfInBounds_toArray, List.set_cons_zero, List.set_cons_succ])
            | (refine HeadC.shut (by rfl) ?_
               try simp only [Act.put, List.setIfInBounds_toArray, List.set_cons_zero, List.set_cons_succ]))
          refine HeadC.nil ?_
          refine AllC.tail 13 (by rfl) (by kernel_rfl) ?_
          intro wt hwt
          simp only [List.drop_succ_cons, List.drop_zero]
          replace hgD := Grew.trans hgD hwt
          replace hown60 := own_below hown60 hwt
          have HGD := Lib.hid (HGz.out.trans hgD)
          have hr60 := own_row hown60
          have HFL := Lib.hid (flat_len ps)
          clear hwt hgD m0 m1 hown60
          go_upto_region 31 with (fail)
          refine wp_region_g 8 (by kernel_rfl) ?_
          refine AllC.head 0 5 (fuel := 5) (by first | exact fun h k => Grew.trans h k | exact fun h k => cls_grew h k) (grew_drew _) (by rfl) (by kernel_rfl) ?_
          simp only [List.take_succ_cons, List.take_zero, List.drop_succ_cons, List.drop_zero]
          repeat (first
            | (refine HeadC.val (by rfl) ?_
               apply Exists.intro
               refine ⟨fun w' hw' => ?_, ?_⟩
               · (have hf_0 := conv_row' (hr60.up hw' (Nat.le_refl _)) c60; (go_simp) <;> (try go_ints) <;> with_reducible rfl)
               try simp only [Act.put, List.setIfInBounds_toArray, List.set_cons_zero, List.set_cons_succ])
            | (refine HeadC.shut (by rfl) ?_
               try simp only [Act.put, List.setIfInBounds_toArray, List.set_cons_zero, List.set_cons_succ]))
          refine HeadC.nil ?_
          refine AllC.one 5 (by kernel_rfl) rfl ?_
          intro wg hg K hK
          go_simp
          have hg13 : Grew wt wg := (grew_drew _).trans hg
          obtain ⟨o1, _, _, _, _⟩ := HOld.out wg (HC0.out.next (HGD.out.trans hg13))
          refine (joined_any Ap cp _ ps wg o1.2.2.2.1 o1.2.2.2.2 (Nat.le_refl _) (by omega) (by rw [HFL.out]; omega)).mono ?_
          rintro e w64 ⟨A64, c64, rfl, hown64, hg64⟩
          have hg15 := Grew.trans hg13 hg64
          refine hK.out _ _ hg15 ?_
          clear hK K hg hg13 hg64 o1
          try simp only [Act.put, List.setIfInBounds_toArray, List.set_cons_zero, List.set_cons_succ]
          refine AllC.one 6 (by kernel_rfl) rfl ?_
          intro wg hg K hK
          go_simp
          have q1 := conv_row' ((own_row hown64).up hg (Nat.le_refl _)) c64
          have hg16 := Grew.trans hg15 hg
          go_simp
          refine hK.out _ _ hg16 ?_
          clear hK K hg hg15 q1
          try simp only [Act.put, List.setIfInBounds_toArray, List.set_cons_zero, List.set_cons_succ]
          refine AllC.head 7 1 (fuel := 2) (by first | exact fun h k => Grew.trans h k | exact fun h k => cls_grew h k) (hg16) (by rfl) (by kernel_rfl) ?_
          simp only [List.take_succ_cons, List.take_zero, List.drop_succ_cons, List.drop_zero]
          repeat (first
            | (refine HeadC.val (by rfl) ?_
               apply Exists.intro
               refine ⟨fun w' hw' => ?_, ?_⟩
               · ((go_simp) <;> (try go_ints) <;> with_reducible rfl)
               try simp only [Act.put, List.setIfInBounds_toArray, List.set_cons_zero, List.set_cons_succ])
            | (refine HeadC.shut (by rfl) ?_
               try simp only [Act.put, List.setIfInBounds_toArray, List.set_cons_zero, List.set_cons_succ]))
          refine HeadC.nil ?_
          refine AllC.tail 8 (by rfl) (by kernel_rfl) ?_
          intro wt hwt
          simp only [List.drop_succ_cons, List.drop_zero]
          have hgE := HGD.out.trans (hg16.trans hwt)
          obtain ⟨_, _, _, _, hbE⟩ := HOld.out _ (HC0.out.next hgE)
          have HBE := Lib.hid hbE
          clear hg16 hwt hgE hown64 hbE
          go_wp2_with fail
          go_ret
          exact ⟨ret_bool (by simp), HBE.out⟩
end Go.Proofs.Ytpoiejgoongllaa
