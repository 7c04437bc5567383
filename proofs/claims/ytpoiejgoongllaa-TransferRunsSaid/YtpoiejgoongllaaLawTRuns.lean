/-
  stockyardlaw37.TransferRuns returns true.
-/
import Derived.Test.YtpoiejgoongllaaRefRun37
import Derived.Test.YtpoiejgoongllaaFaults37
import Derived.Test.YtpoiejgoongllaaKnown37
import Derived.Deep.DeepCutAuto
namespace Go.Proofs.Ytpoiejgoongllaa
set_option linter.unusedVariables false
set_option linter.unusedSimpArgs false
set_option linter.unnecessarySimpa false
open Go.RowKit
attribute [local go_sem ↓] Go.wp_at_zero Go.wp_at_succ

set_option maxRecDepth 100000 in
set_option maxHeartbeats 1000000 in
theorem bytes37_any (A : Option Addr) (c : Nat) (ps : List Part) (w : World) (hr : Row w w.heap.size A (chsC (rightC ps))) (hn : ps.length ≤ 1000000) :
    Calls Try.prog 32 #[.slice A ps.length c] w fun e w' => ∃ A' c', e = .returned (.slice A' ps.length c') ∧
      w'.ownsRow w.heap.size 38 1 (.slice A' ps.length c') ps.length (ps.map Part.v) ∧ Grew w w' := by
  have HR := Lib.hid hr
  have hrl := rightC_length ps
  clear hr
  go_enter Try.func32, Try.ntmps32
  go_wp2_with fail
  go_loopw [3, 4] (fun s v wr => ∃ (k : Nat) (Ao : Option Addr) (co : Nat), k ≤ ps.length ∧ v = .int .i64 k ∧ s = .slice Ao k co ∧ wr.ownsRow w.heap.size 38 1 (.slice Ao k co) k ((ps.map Part.v).take k) ∧ Below w.heap.size w wr) (fun _ v _ => ps.length - (intOf v).toNat)
  case atStart => exact ⟨0, none, 0, Nat.zero_le _, rfl, rfl, World.ownsRow_nil _ _ _ _, Below.refl _ _⟩
  case round =>
    obtain ⟨k, Ao, co, hk, rfl, rfl, hown, hb⟩ := hrel
    by_cases hlt : k < ps.length
    · obtain ⟨ad, hA, hbl, d0, d1, d2⟩ := chs_at (HR.out.below hb (Nat.le_refl _)) (k := k) (by rw [hrl]; exact hlt)
      have hc : (rightC ps)[k]'(by rw [hrl]; exact hlt) = ⟨idOf ps[k].zs, ps[k]⟩ := by simp [rightC]
      rw [hc] at d2
      have hsn := Lib.hid (show (ps.map Part.v).take (k + 1) = (ps.map Part.v).take k ++ [.slice ps[k].A ps[k].zs.length ps[k].cap] from by
        rw [List.take_succ_eq_append_getElem (by rw [List.length_map]; exact hlt), List.getElem_map]; rfl)
      generalize ps[k] = x at *
      obtain ⟨xA, xc, xz⟩ := x
      simp only at d2 hsn
      clear d0 d1 hc
      have hs0 := hb.size
      have ga := grew_alloc wr (.cells #[.slice xA xz.length xc] 38)
      have hown1 := own_below hown ga
      have hb1 : Below w.heap.size w (wr.alloc (.cells #[.slice xA xz.length xc] 38)) := Below.trans (B := w.heap.size) hb (ga.mono hs0)
      have hs1 := ga.size
      have HV := Lib.hid (Blk.row (Blk.new wr 38 #[.slice xA xz.length xc]))
      have HB := Lib.hid hb1
      clear hown hb ga hb1
      subst hA
      go_wp2_with (at_builtin; go_loud (refine wpList_append_row rfl (.tmp 11) (.tmp 17) rfl w.heap.size elem_bytes (by rfl) hown1 _ (by rfl) (by rfl) HV.out (by simp [Value.oneCell']) (by unfold maxLen; omega) (by omega) (by first | omega | (simp; omega)) ?_); intro A8 c8 w8 hown8 hg8 _)
      have HO := Lib.hid (show w8.ownsRow w.heap.size 38 1 (.slice A8 (k + 1) c8) (k + 1) ((ps.map Part.v).take (k + 1)) from by rw [hsn.out]; exact hown8)
      have hb8 : Below w.heap.size w w8 := Below.trans (B := w.heap.size) HB.out (below_grown hg8 (by omega) (own_lt hown1))
      clear hown1 hown8 hg8 d2
      go_wp2_with fail
      go_roundw
      case rel => exact ⟨k + 1, A8, c8, by omega, by go_num, rfl, HO.out, hb8⟩
      case measure => simp [intOf]; omega
    · obtain rfl : k = ps.length := by omega
      rw [List.take_of_length_le (by rw [List.length_map]; exact Nat.le_refl _)] at hown
      go_wp2_with fail
      go_ret
      exact ⟨Ao, co, rfl, hown, hb⟩
/-- a chunk out of some, right or wrong -/
theorem some_factP {ps : List Part} (hS : Pcs37 ps) {q : ChZ} (h : q ∈ rightC ps ∨ WrongC (rightC ps) q) : WfI q.id ∧ Byt q.p.zs ∧ q.p.zs.length ≤ 4096 := by
  have key : ∀ c ∈ rightC ps, WfI c.id ∧ Byt c.p.zs ∧ c.p.zs.length ≤ 2049 := fun c hc => by
    unfold rightC at hc
    obtain ⟨p, hp, rfl⟩ := List.mem_map.1 hc
    exact ⟨pcs_wf hS _ (by unfold idsOf; exact List.mem_map.2 ⟨p, hp, rfl⟩), (hS p hp).len.2.2, (hS p hp).len.2.1⟩
  rcases h with h | ⟨c, hc, b, hb, h2, h3⟩
  · obtain ⟨a, b, c⟩ := key q h
    exact ⟨a, b, by omega⟩
  · obtain ⟨k1, k2, k3⟩ := key c hc
    refine ⟨by rw [h2]; exact k1, fun z hz => ?_, by rw [h3, List.length_cons, List.length_drop]; omega⟩
    rw [h3] at hz
    rcases List.mem_cons.1 hz with rfl | hz
    · omega
    · exact k2 z (List.mem_of_mem_drop hz)
theorem elem_int37 : Elem Try.prog 22 3 1 8 := elem_mk (z := .int .i64 0) Try.underlying22 (by kernel_rfl) rfl (by omega)
set_option maxRecDepth 100000 in
set_option maxHeartbeats 16000000 in
theorem lawTRuns_any (A : Option Addr) (cap : Nat) (ls : List Int) (rounds : Int) (w : World) (hr : Row w w.heap.size A (ls.map (.int .i64))) (hz : ∀ z ∈ ls, -9223372036854775808 ≤ z ∧ z ≤ 9223372036854775807) (hm : ls.length ≤ 9223372036854775807)
    (hrd1 : -9223372036854775808 ≤ rounds) (hrd2 : rounds ≤ 9223372036854775807) :
    Calls Try.prog 9 #[.slice A ls.length cap, .int .i64 rounds] w fun e w' => e = .returned (.bool true) ∧ Below w.heap.size w w' := by
  have hT := Tp.new (cap := cap) hr (Nat.le_refl _) hz hm
  have g0 := grew_alloc w (.cells #[.slice A ls.length cap, .int .i64 0] 25)
  have hch0 : Ch (At w.heap.size) w (w.alloc (.cells #[.slice A ls.length cap, .int .i64 0] 25)) := Ch.of_below g0
  have HRd := Lib.hid (And.intro hrd1 hrd2)
  clear hz g0 hr hrd1 hrd2
  go_enter Try.func9, Try.ntmps9
  go_wp2_with fail
  generalize w.alloc (.cells #[.slice A ls.length cap, .int .i64 0] 25) = w1 at *
  refine (pieces37_any _ _ _ 4 _ hT (by omega) (by omega)).mono ?_
  rintro e w2 ⟨Ap, cp, ps, rfl, hpl, hS, hownp, hTx, hT2, hch, hcaps⟩
  have hb2 : Grew w w2 := (hch0.trans hch).below (Nat.le_refl _) (fun i hi => by rw [hi]; exact Nat.le_refl _)
  have htl0 := hT.lt
  have h12 := hch.size
  clear hT hch hch0
  have HS := Lib.hid hS
  have HCaps := Lib.hid hcaps
  have HPm := Lib.hid (pcs_pm hS)
  clear hS hcaps
  go_wp2_with fail
  refine (right37_any Ap cp ps w2 (own_row hownp) hTx.lie HPm.out (by omega)).mono ?_
  rintro e w4 ⟨A4, c4, rfl, hown4, hb⟩
  have hg4 := Grew.trans hb2 hb
  replace hTx := hTx.of hb
  replace hT2 := hT2.of hb
  have h24 := hb.size
  clear hb hb2 hownp
  have htot := pcs_tot HS.out
  have htb : totP ps ≤ 1073741824 := by omega
  go_wp2_with fail
  refine (bytes37_any A4 c4 ps w4 (own_row hown4) (by omega)).mono ?_
  rintro e w3 ⟨A9, c9, rfl, hown9, hb⟩
  have hg3 := Grew.trans hg4 hb
  replace hown4 := own_below hown4 hb
  replace hTx := hTx.of hb
  replace hT2 := hT2.of hb
  have h43 := hb.size
  clear hb hg4
  go_wp2_with fail
  refine (refOf25_any A9 c9 _ _ ps w3 hown9 hTx (fun p hp => (HPm.out p hp).1) (by omega) htb).mono ?_
  rintro e w5 ⟨A5, c5, rfl, hown5, hb⟩
  rw [totP_of]
  have hM := Blk.new w5 33 #[.int .i64 (totP ps : Nat), .slice A5 ps.length c5]
  have gM := grew_alloc w5 (.cells #[.int .i64 (totP ps : Nat), .slice A5 ps.length c5] 33)
  have hgb := Grew.trans hb gM
  have hg6 := Grew.trans hg3 hgb
  replace hown4 := own_below hown4 hgb
  replace hown5 := own_below hown5 gM
  replace hTx := hTx.of hgb
  replace hT2 := hT2.of hgb
  have h35 := hb.size
  have hgt : w.heap.size < w5.heap.size := by omega
  clear hb gM hgb hg3 hown9
  go_wp2_with fail
  generalize w5.alloc (.cells #[.int .i64 (totP ps : Nat), .slice A5 ps.length c5] 33) = w6 at *
  generalize w5.heap.size = gm at *
  have hl7 : ¬ At w.heap.size gm := fun h => by have h2 : gm = w.heap.size := h; omega
  have HNB := Lib.hid (tape_noBytes' hT2)
  have hgm := hM.lt
  have h26 : w2.heap.size ≤ w6.heap.size := by omega
  have HS1 := some37_yes w.heap.size w.heap.size _ w1.heap.size A4 c4 (rightC ps) w6 hT2 (by rw [rightC_length]; exact own_mono hown4 h12) (by rw [rightC_length]; omega) (by omega)
    (fun c hc => by
      unfold rightC at hc
      obtain ⟨p, hp, rfl⟩ := List.mem_map.1 hc
      have := (HS.out p hp).len
      exact ⟨hTx p hp, this.1, HCaps.out p hp, by have := this.2.1; show p.zs.length ≤ _; omega⟩) (by omega)
  unfold SomeWRes at HS1
  rw [rightC_length] at HS1
  refine HS1.mono ?_
  clear HS1
  rintro e w7 ⟨A7, c7, qs, rfl, hql, hqm, hown7, hq7, hT7, hch7⟩
  have hne7 : ∀ {base : Nat} {e : TypeId} {size n : Nat} {v : Value} {xs : List Value}, w6.ownsRow base e size v n xs → w.heap.size < base → w7.ownsRow base e size v n xs := fun ho hb => own_ch ho hch7 (fun i hi h => by have := own_lt ho i hi; have h' : i = w.heap.size := h; omega)
  replace hown4 := hne7 hown4 (by omega)
  replace hown5 := hne7 hown5 (by omega)
  replace hM := hM.ch hch7 hl7
  replace hTx : Txs w7 w1.heap.size ps := fun p hp => (hTx p hp).ch hch7 HNB.out
  have HG7 : Hid (Grew w w7) := Lib.hid (((Ch.of_below hg6).trans hch7).below (Nat.le_refl _) (fun i hi => by rw [hi]; exact Nat.le_refl _))
  have h67 := hch7.size
  have HQ := Lib.hid (fun q hq => some_factP HS.out (hqm q hq))
  have HIn7 : Hid (ChsIn w7 qs) := Lib.hid (fun q hq => ⟨(hq7 q hq).1.row, (hq7 q hq).2, by have := (HQ.out q hq).2.2; omega⟩)
  have HQT7 := Lib.hid hq7
  clear hne7 HNB hT2 hch7 hg6 hqm hq7
  have hl7 : ¬ At w.heap.size gm := hl7
  have HNB7 := Lib.hid (tape_noBytes' hT7)
  have hT7' := hT7
  have HS2 := some37_yes w.heap.size w.heap.size _ w1.heap.size A4 c4 (rightC ps) w7 hT7' (by rw [rightC_length]; exact own_mono hown4 (by omega)) (by rw [rightC_length]; omega) (by omega)
    (fun c hc => by
      unfold rightC at hc
      obtain ⟨p, hp, rfl⟩ := List.mem_map.1 hc
      have := (HS.out p hp).len
      exact ⟨hTx p hp, this.1, HCaps.out p hp, by have := this.2.1; show p.zs.length ≤ _; omega⟩) (by omega)
  unfold SomeWRes at HS2
  rw [rightC_length] at HS2
  have HS2 := Lib.hid HS2
  clear hT7'
  go_wp2_with fail
  refine HS2.out.mono ?_
  clear HS2
  rintro e w8 ⟨A8, c8, q2, rfl, hql2, hqm2, hown8, hq82, hT8, hch8⟩
  have hne8 : ∀ {base : Nat} {e : TypeId} {size n : Nat} {v : Value} {xs : List Value}, w7.ownsRow base e size v n xs → w.heap.size < base → w8.ownsRow base e size v n xs := fun ho hb => own_ch ho hch8 (fun i hi h => by have := own_lt ho i hi; have h' : i = w.heap.size := h; omega)
  replace hown4 := hne8 hown4 (by omega)
  replace hown5 := hne8 hown5 (by omega)
  replace hown7 := hne8 hown7 (by omega)
  replace hM := hM.ch hch8 hl7
  replace hTx : Txs w8 w1.heap.size ps := fun p hp => (hTx p hp).ch hch8 HNB7.out
  have HQT8 : Hid (∀ q ∈ qs, Tx w8 w1.heap.size q.p ∧ q.p.zs.length ≤ q.p.cap) := Lib.hid (fun q hq => ⟨(HQT7.out q hq).1.ch hch8 HNB7.out, (HQT7.out q hq).2⟩)
  have HG8 : Hid (Grew w w8) := Lib.hid (((Ch.of_below HG7.out).trans hch8).below (Nat.le_refl _) (fun i hi => by rw [hi]; exact Nat.le_refl _))
  have h78 := hch8.size
  have HQ2 := Lib.hid (fun q hq => some_factP HS.out (hqm2 q hq))
  have HNB8 := Lib.hid (tape_noBytes' hT8)
  have HFa := Lib.hid (faults37_any _ _ _ 3 w8 hT8 (by omega) (by omega))
  clear hne8 hT7 hch8 HG7 HIn7 HQT7 HNB7 hqm2
  go_wp2_with fail
  refine HFa.out.mono ?_
  clear HFa
  rintro e w9 ⟨AF, fc, fl, rfl, hfl, hFD, hownF, hFl, hT9, hch9⟩
  have hne9 : ∀ {base : Nat} {e : TypeId} {size n : Nat} {v : Value} {xs : List Value}, w8.ownsRow base e size v n xs → w.heap.size < base → w9.ownsRow base e size v n xs := fun ho hb => own_ch ho hch9 (fun i hi h => by have := own_lt ho i hi; have h' : i = w.heap.size := h; omega)
  replace hown4 := hne9 hown4 (by omega)
  replace hown5 := hne9 hown5 (by omega)
  replace hown7 := hne9 hown7 (by omega)
  replace hown8 := hne9 hown8 (by omega)
  replace hM := hM.ch hch9 hl7
  replace hTx : Txs w9 w1.heap.size ps := fun p hp => (hTx p hp).ch hch9 HNB8.out
  have HQT9 : Hid (∀ q ∈ qs, Tx w9 w1.heap.size q.p ∧ q.p.zs.length ≤ q.p.cap) := Lib.hid (fun q hq => ⟨(HQT8.out q hq).1.ch hch9 HNB8.out, (HQT8.out q hq).2⟩)
  have HQT92 : Hid (∀ q ∈ q2, Tx w9 w1.heap.size q.p ∧ q.p.zs.length ≤ q.p.cap) := Lib.hid (fun q hq => ⟨(hq82 q hq).1.ch hch9 HNB8.out, (hq82 q hq).2⟩)
  have HG9 : Hid (Grew w w9) := Lib.hid (((Ch.of_below HG8.out).trans hch9).below (Nat.le_refl _) (fun i hi => by rw [hi]; exact Nat.le_refl _))
  have h89 := hch9.size
  have HFD := Lib.hid hFD
  have HFlb := Lib.hid hfl
  clear hne9 hT8 hch9 HG8 HQT8 HNB8 hq82 hFD hfl
  go_wp2_with fail
  refine (tapeNext_any _ _ _ 2 _ hT9 (by omega) (by omega)).mono ?_
  rintro e w10 ⟨x10, rfl, hx10, hT10, hch10⟩
  have hneA : ∀ {base : Nat} {e : TypeId} {size n : Nat} {v : Value} {xs : List Value}, w9.ownsRow base e size v n xs → w.heap.size < base → w10.ownsRow base e size v n xs := fun ho hb => own_ch ho hch10 (fun i hi h => by have := own_lt ho i hi; have h' : i = w.heap.size := h; omega)
  replace hown4 := hneA hown4 (by omega)
  replace hown5 := hneA hown5 (by omega)
  replace hown7 := hneA hown7 (by omega)
  replace hown8 := hneA hown8 (by omega)
  replace hownF := hneA hownF (by omega)
  have hFl2 : ∀ f ∈ fl, w10.ownsRow w8.heap.size 93 3 f.v f.fs.length (ftsC f.fs) := fun f hf => hneA (hFl f hf) (by omega)
  replace hM := hM.ch hch10 hl7
  have HNB9 := Lib.hid (tape_noBytes' hT9)
  replace hTx : Txs w10 w1.heap.size ps := fun p hp => (hTx p hp).ch hch10 HNB9.out
  have HG10 : Hid (Grew w w10) := Lib.hid (((Ch.of_below HG9.out).trans hch10).below (Nat.le_refl _) (fun i hi => by rw [hi]; exact Nat.le_refl _))
  have h9A := hch10.size
  have HTq : Hid (∀ q ∈ qs, Tx w10 w1.heap.size q.p ∧ q.p.zs.length ≤ q.p.cap) := Lib.hid (fun q hq => ⟨(HQT9.out q hq).1.ch hch10 HNB9.out, (HQT9.out q hq).2⟩)
  have HTq2 : Hid (∀ q ∈ q2, Tx w10 w1.heap.size q.p ∧ q.p.zs.length ≤ q.p.cap) := Lib.hid (fun q hq => ⟨(HQT92.out q hq).1.ch hch10 HNB9.out, (HQT92.out q hq).2⟩)
  have HNBt := Lib.hid (tape_noBytes' hT10)
  have hneT : ∀ {base : Nat} {e : TypeId} {size n : Nat} {v : Value} {xs : List Value} {W : World}, Ch (At w.heap.size) w10 W → w10.ownsRow base e size v n xs → w.heap.size < base → W.ownsRow base e size v n xs := fun hc ho hb => own_ch ho hc (fun i hi h => by have := own_lt ho i hi; have h' : i = w.heap.size := h; omega)
  have HFq : Hid (∀ W, Ch (At w.heap.size) w10 W → Row W W.heap.size A7 (chsC qs) ∧ ChsIn W qs) := Lib.hid (fun W hc => ⟨own_row (hneT hc hown7 (by omega)), fun q hq => ⟨((HTq.out q hq).1.ch hc HNBt.out).row, (HTq.out q hq).2, by have := (HQ.out q hq).2.2; omega⟩⟩)
  have HFq2 : Hid (∀ W, Ch (At w.heap.size) w10 W → Row W W.heap.size A8 (chsC q2) ∧ ChsIn W q2) := Lib.hid (fun W hc => ⟨own_row (hneT hc hown8 (by omega)), fun q hq => ⟨((HTq2.out q hq).1.ch hc HNBt.out).row, (HTq2.out q hq).2, by have := (HQ2.out q hq).2.2; omega⟩⟩)
  have HFr : Hid (∀ W, Ch (At w.heap.size) w10 W → Row W W.heap.size A4 (chsC (rightC ps)) ∧ ChsIn W (rightC ps)) := Lib.hid (fun W hc => ⟨own_row (hneT hc hown4 (by omega)), fun c hcm => by
    unfold rightC at hcm
    obtain ⟨p, hp, rfl⟩ := List.mem_map.1 hcm
    have := (HS.out p hp).len
    exact ⟨((hTx p hp).ch hc HNBt.out).row, HCaps.out p hp, by have := this.2.1; show p.zs.length ≤ _; omega⟩⟩)
  have HF5 : Hid (∀ W, Ch (At w.heap.size) w10 W → Row W W.heap.size A5 (idsC (idsOf ps))) := Lib.hid (fun W hc => own_row (hneT hc hown5 (by omega)))
  have HFF : Hid (∀ W, Ch (At w.heap.size) w10 W → Row W W.heap.size AF (fl.map Fts.v) ∧ ∀ f ∈ fl, Row W W.heap.size f.A (ftsC f.fs)) := Lib.hid (fun W hc => ⟨own_row (hneT hc hownF (by omega)), fun f hf => own_row (hneT hc (hFl2 f hf) (by omega))⟩)
  have HMM : Hid (∀ W, Ch (At w.heap.size) w10 W → Blk W gm 33 #[.int .i64 (totP ps : Nat), .slice A5 ps.length c5]) := Lib.hid (fun W hc => hM.ch hc hl7)
  have HIr : Hid (∀ c ∈ rightC ps, WfI c.id ∧ Byt c.p.zs) := Lib.hid (fun c hc => by obtain ⟨a, b, _⟩ := some_factP HS.out (.inl hc); exact ⟨a, b⟩)
  have hrl := rightC_length ps
  clear hneA hneT hT9 hch10 HG9 HQT9 HQT92 HNB9 hFl hx10 hown8 hown4 hown5 hown7 hownF hFl2 hM hTx HTq HTq2 HNBt
  go_upto_if 38 with (fail)
  go_cut [9] (fun s wx => ∃ (As : Option Addr) (sc : Nat) (snd : List ChZ), s = .slice As snd.length sc ∧ snd.length ≤ 4 ∧ Hid (∀ W, Ch (At w.heap.size) w10 W → Row W W.heap.size As (chsC snd) ∧ ChsIn W snd) ∧ Hid (∀ c ∈ snd, WfI c.id ∧ Byt c.p.zs) ∧ wx = w10)
  case first =>
    by_cases hx0 : x10 = 0
    · have hxb : ((x10 : Int) == 0) = true := by simp [hx0]
      go_wp2_with fail
      go_meet
      exact ⟨A4, c4, rightC ps, by rw [hrl], by omega, HFr, HIr, rfl⟩
    · have hxb : ((x10 : Int) == 0) = false := by simp; omega
      have HI2 : Hid (∀ c ∈ q2, WfI c.id ∧ Byt c.p.zs) := Lib.hid (fun q hq => ⟨(HQ2.out q hq).1, (HQ2.out q hq).2.1⟩)
      go_wp2_with fail
      go_meet
      exact ⟨A8, c8, q2, rfl, by omega, HFq2, HI2, rfl⟩
  case rest =>
    obtain ⟨As, sc, snd, rfl, hsl, HSr, HSo, hwx⟩ := hcut
    subst hwx
    obtain ⟨wX, hwX⟩ : ∃ wX, wX = wc := ⟨_, rfl⟩
    subst hwX
    clear HFr HIr HFq2 HQ2 hrl hql2
    have HOk : Hid (RunOk (idsOf ps) qs snd fl) := Lib.hid ⟨pcs_wf HS.out, fun q hq => ⟨(HQ.out q hq).1, (HQ.out q hq).2.1⟩, HSo.out, fun f hf => ⟨fun x hx => ((HFD.out f hf).2 x hx).ok, by have := (HFD.out f hf).1; omega⟩, by rw [idsOf_length]; omega, by omega, by omega, by rw [HFlb.out]; omega⟩
    go_wp2_with fail
    refine (tapeNext_any _ _ _ 9 _ hT10 (by omega) (by omega)).mono ?_
    rintro e w11 ⟨xa, rfl, hxa, hT11, hch11⟩
    have hxa9 : xa < 9 := by omega
    have HIn : Hid (RunIn w11 A5 (idsOf ps) A7 qs As snd AF fl) := Lib.hid ⟨HF5.out _ hch11, (HFq.out _ hch11).1, (HFq.out _ hch11).2, (HSr.out _ hch11).1, (HSr.out _ hch11).2, (HFF.out _ hch11).1, (HFF.out _ hch11).2⟩
    have HM := Lib.hid (HMM.out _ hch11)
    have HG11 : Hid (Grew w w11) := Lib.hid (((Ch.of_below HG10.out).trans hch11).below (Nat.le_refl _) (fun i hi => by rw [hi]; exact Nat.le_refl _))
    clear hxa hT10 hch11 HF5 HFq HSr HFF HMM HSo HFD HG10 hT11
    go_wp2_with fail
    obtain ⟨hrd1, hrd2⟩ := HRd.out
    refine (fold_any rounds 60 hrd1 hrd2 (by omega) w11).mono ?_
    rintro e w12 ⟨rfl, rfl⟩
    have hf1 := foldI_lo rounds 60
    have hf2 := foldI_hi rounds 60 (by omega)
    generalize foldI rounds 60 = xf at *
    have hgL := grew_alloc w11 (.cells #[.int .i64 xa, .int .i64 xf] 3)
    have hownL : (w11.alloc (.cells #[.int .i64 xa, .int .i64 xf] 3)).ownsRow w11.heap.size 3 1 (.slice (some ⟨w11.heap.size, 0, none⟩) 2 2) 2 (([(xa : Int), xf] : List Int).map (.int .i64)) := own_lit w11 w11.heap.size 3 #[.int .i64 xa, .int .i64 xf] (Nat.le_refl _) (by unfold maxLen; simp)
    have HGL := Lib.hid hgL
    have hwl : w11.heap.size ≤ (w11.alloc (.cells #[.int .i64 xa, .int .i64 xf] 3)).heap.size := hgL.size
    clear hgL hrd1 hrd2
    go_upto_if 46 with (fail)
    generalize w11.alloc (.cells #[.int .i64 xa, .int .i64 xf] 3) = w13 at *
    obtain ⟨g11, hg11⟩ : ∃ g11, g11 = w11.heap.size := ⟨_, rfl⟩
    rw [← hg11] at hownL hwl ⊢
    have HGe1 := Lib.hid hg11
    clear hg11
    have HOL := Lib.hid hownL
    have hgi : g11 ≤ w13.heap.size := hwl
    go_cut [11] (fun s wx => ∃ (Al : Option Addr) (cl : Nat) (vs : List Int), s = .slice Al vs.length cl ∧ vs.length ≤ 3 ∧ Hid (∀ v ∈ vs, -9223372036854775808 ≤ v ∧ v ≤ 9223372036854775807) ∧ Hid (wx.ownsRow g11 3 1 (.slice Al vs.length cl) vs.length (vs.map (.int .i64))) ∧ Hid (Below g11 w13 wx))
    case first =>
      by_cases hneg : rounds < 0
      · have hgB := grew_alloc w13 (.cells #[.int .i64 rounds] 3)
        have HV := Lib.hid (Blk.row (Blk.new w13 3 #[.int .i64 rounds]))
        have hownB := own_below hownL hgB
        have hsB : g11 ≤ (w13.alloc (.cells #[.int .i64 rounds] 3)).heap.size := Nat.le_trans hgi hgB.size
        have HGB := Lib.hid hgB
        have HBd : Hid (∀ v ∈ [(xa : Int), xf, rounds], -9223372036854775808 ≤ v ∧ v ≤ 9223372036854775807) := Lib.hid (fun v hv => by
          have h9 := HRd.out
          simp only [List.mem_cons, List.not_mem_nil, or_false] at hv
          rcases hv with rfl | rfl | rfl <;> omega)
        clear hgB hownL
        go_wp2_with (at_builtin; go_loud (refine wpList_append_row rfl (.tmp 47) (.tmp 49) rfl g11 elem_int37 (by rfl) hownB _ (by rfl) (by rfl) HV.out (by simp [Value.oneCell']) (by unfold maxLen; omega) (by omega) hsB ?_); intro A14 c14 w14 hown14 hg14 _)
        have HO14 : Hid (w14.ownsRow g11 3 1 (.slice A14 [(xa : Int), xf, rounds].length c14) [(xa : Int), xf, rounds].length ([(xa : Int), xf, rounds].map (.int .i64))) := Lib.hid hown14
        have HG14 : Hid (Below g11 w13 w14) := Lib.hid (Below.trans (B := g11) (HGB.out.mono hgi) (below_grown hg14 hsB (own_lt hownB)))
        clear hown14 hg14
        go_meet
        exact ⟨A14, c14, [(xa : Int), xf, rounds], rfl, by simp, HBd, HO14, HG14⟩
      · have HBd : Hid (∀ v ∈ [(xa : Int), xf], -9223372036854775808 ≤ v ∧ v ≤ 9223372036854775807) := Lib.hid (fun v hv => by
          simp only [List.mem_cons, List.not_mem_nil, or_false] at hv
          rcases hv with rfl | rfl <;> omega)
        have hneg2 : 0 ≤ rounds := by omega
        clear hownL
        go_wp2_with fail
        go_meet
        exact ⟨some ⟨g11, 0, none⟩, 2, [(xa : Int), xf], rfl, by simp, HBd, HOL, Lib.hid (Below.refl _ _)⟩
    case rest =>
      obtain ⟨Al, cl, vs, rfl, hvl, HVb, HVo, HVg⟩ := hcut
      have HGc : Hid (Grew w11 wc) := Lib.hid (by
        have h1 := HGL.out
        have h2 := HVg.out
        rw [HGe1.out] at h2
        exact Below.trans (B := w11.heap.size) h1 h2)
      clear hownL HOL HGL HVg hgi hwl hf1 hf2
      go_wp2_with fail
      go_loopw [12] (fun v W => ∃ i : Nat, i ≤ vs.length ∧ v = .int .i64 i ∧ Hid (Grew wc W)) (fun v _ => vs.length - (intOf v).toNat)
      case atStart => exact ⟨0, Nat.zero_le _, rfl, Lib.hid (Grew.refl _)⟩
      case round =>
        obtain ⟨i, hi, rfl, HGi⟩ := hrel
        by_cases hlt : i < vs.length
        · have HI2 := Lib.hid (fun W (hg : Grew wr W) => HIn.out.up (Grew.trans HGc.out (Grew.trans HGi.out hg)))
          have hM2 := (HM.out.of (Grew.trans HGc.out HGi.out))
          have m0 := (hM2.cell 0).trans (show _ = some (.int .i64 (totP ps : Nat)) from rfl)
          have m1 := (hM2.cell 1).trans (show _ = some (.slice A5 ps.length c5) from rfl)
          obtain ⟨gv, rfl, hgv1, hgv2⟩ := own_some HVo.out (Nat.lt_of_le_of_lt (Nat.zero_le _) hlt)
          have d0 := ((own_below HVo.out HGi.out).cellAt i (by omega)).trans (show (vs.map (Value.int .i64))[i]? = some (.int .i64 vs[i]) by rw [List.getElem?_map, List.getElem?_eq_getElem hlt]; rfl)
          obtain ⟨hv1, hv2⟩ := HVb.out _ (List.getElem_mem hlt)
          generalize vs[i] = vi at *
          have hil := idsOf_length ps
          have hchk : chkM ((totP ps : Nat) : Int) (idsOf ps) = 0 := pcs_chk HS.out (by omega)
          have HChk := Lib.hid hchk
          have HRun := Lib.hid (fun W (hg : Grew wr W) => run37_any (totP ps) A5 c5 (idsOf ps) A7 c7 qs As sc snd vi AF fc fl W (HI2.out W hg) HOk.out hv1 hv2)
          have HRef := Lib.hid (fun W (hg : Grew wr W) => refRun37_any (totP ps) A5 c5 (idsOf ps) A7 c7 qs As sc snd vi AF fc fl W (HI2.out W hg) HOk.out (by omega) (by omega))
          rw [hil] at HRun HRef
          have HHl := Lib.hid hil
          clear hM2 hv1 hv2 hil hchk
          go_upto_region 13 with (fail)
          refine wp_region_g 15 (by kernel_rfl) ?_
          have hgW : Grew wr wr.drew := grew_drew _
          refine AllC.head 0 8 (fuel := 8) (by first | exact fun h k => Grew.trans h k | exact fun h k => cls_grew h k) (hgW) (by rfl) (by kernel_rfl) ?_
          simp only [List.take_succ_cons, List.take_zero, List.drop_succ_cons, List.drop_zero]
          repeat (first
            | (refine HeadC.val (by rfl) ?_
               apply Exists.intro
               refine ⟨fun w' hw' => ?_, ?_⟩
               · (have hf_0 := cell_up hw' m0; have hf_1 := cell_up hw' m1; have hf_2 := cell_up hw' d0; (go_simp) <;> (try go_ints) <;> with_reducible rfl)
               try simp only [Act.put, List.setIfInBounds_toArray, List.set_cons_zero, List.set_cons_succ])
            | (refine HeadC.shut (by rfl) ?_
               try simp only [Act.put, List.setIfInBounds_toArray, List.set_cons_zero, List.set_cons_succ]))
          refine HeadC.nil ?_
          refine AllC.one 8 (by kernel_rfl) rfl ?_
          intro wg hg K hK
          go_simp
          replace hgW := Grew.trans hgW hg
          refine (HRun.out wg hgW).mono ?_
          rintro e w14 ⟨hg14, hif⟩
          rw [if_pos HChk.out] at hif
          obtain ⟨k1, A14, c14, hRd1, rfl, hown14⟩ := hif
          have HK1 := Lib.hid hRd1
          replace hgW := Grew.trans hgW hg14
          refine hK.out _ _ hgW ?_
          clear hK K hg hg14 hRd1 HRun
          try simp only [Act.put, List.setIfInBounds_toArray, List.set_cons_zero, List.set_cons_succ]
          refine AllC.head 9 6 (fuel := 1) (by first | exact fun h k => Grew.trans h k | exact fun h k => cls_grew h k) (hgW) (by rfl) (by kernel_rfl) ?_
          simp only [List.take_succ_cons, List.take_zero, List.drop_succ_cons, List.drop_zero]
          repeat (first
            | (refine HeadC.val (by rfl) ?_
               apply Exists.intro
               refine ⟨fun w' hw' => ?_, ?_⟩
               · ((go_simp) <;> (try go_ints) <;> with_reducible rfl)
               try simp only [Act.put, List.setIfInBounds_toArray, List.set_cons_zero, List.set_cons_succ])
            | (refine HeadC.shut (by rfl) ?_
               try simp only [Act.put, List.setIfInBounds_toArray, List.set_cons_zero, List.set_cons_succ]))
          refine HeadC.nil ?_
          refine AllC.tail 15 (by rfl) (by kernel_rfl) ?_
          intro wt hwt
          simp only [List.drop_succ_cons, List.drop_zero]
          replace hgW := Grew.trans hgW hwt
          have hr14 := own_row (own_below hown14 hwt)
          have HGw := Lib.hid hgW
          replace m0 := cell_up hgW m0
          replace m1 := cell_up hgW m1
          replace d0 := cell_up hgW d0
          obtain ⟨wy, hwy⟩ : ∃ wy, wy = wt := ⟨_, rfl⟩
          subst hwy
          clear hgW hwt hown14
          go_upto_region 14 with (fail)
          refine wp_region_g 15 (by kernel_rfl) ?_
          have hgW : Grew wy wy.drew := grew_drew _
          refine AllC.head 0 8 (fuel := 8) (by first | exact fun h k => Grew.trans h k | exact fun h k => cls_grew h k) (hgW) (by rfl) (by kernel_rfl) ?_
          simp only [List.take_succ_cons, List.take_zero, List.drop_succ_cons, List.drop_zero]
          repeat (first
            | (refine HeadC.val (by rfl) ?_
               apply Exists.intro
               refine ⟨fun w' hw' => ?_, ?_⟩
               · (have hf_0 := cell_up hw' m0; have hf_1 := cell_up hw' m1; have hf_2 := cell_up hw' d0; (go_simp) <;> (try go_ints) <;> with_reducible rfl)
               try simp only [Act.put, List.setIfInBounds_toArray, List.set_cons_zero, List.set_cons_succ])
            | (refine HeadC.shut (by rfl) ?_
               try simp only [Act.put, List.setIfInBounds_toArray, List.set_cons_zero, List.set_cons_succ]))
          refine HeadC.nil ?_
          refine AllC.one 8 (by kernel_rfl) rfl ?_
          intro wg hg K hK
          go_simp
          replace hgW := Grew.trans hgW hg
          refine (HRef.out wg (Grew.trans HGw.out hgW)).mono ?_
          rintro e w16 ⟨hg16, hif⟩
          rw [if_pos HChk.out] at hif
          obtain ⟨k2, A16, c16, hRd2, rfl, hown16⟩ := hif
          obtain rfl : k2 = k1 := hRd2.uniq HK1.out
          replace hgW := Grew.trans hgW hg16
          refine hK.out _ _ hgW ?_
          clear hK K hg hg16 hRd2 HRef HK1
          try simp only [Act.put, List.setIfInBounds_toArray, List.set_cons_zero, List.set_cons_succ]
          refine AllC.head 9 6 (fuel := 1) (by first | exact fun h k => Grew.trans h k | exact fun h k => cls_grew h k) (hgW) (by rfl) (by kernel_rfl) ?_
          simp only [List.take_succ_cons, List.take_zero, List.drop_succ_cons, List.drop_zero]
          repeat (first
            | (refine HeadC.val (by rfl) ?_
               apply Exists.intro
               refine ⟨fun w' hw' => ?_, ?_⟩
               · ((go_simp) <;> (try go_ints) <;> with_reducible rfl)
               try simp only [Act.put, List.setIfInBounds_toArray, List.set_cons_zero, List.set_cons_succ])
            | (refine HeadC.shut (by rfl) ?_
               try simp only [Act.put, List.setIfInBounds_toArray, List.set_cons_zero, List.set_cons_succ]))
          refine HeadC.nil ?_
          refine AllC.tail 15 (by rfl) (by kernel_rfl) ?_
          intro wt hwt
          simp only [List.drop_succ_cons, List.drop_zero]
          replace hgW := Grew.trans hgW hwt
          have hr16 := own_row (own_below hown16 hwt)
          replace hr14 := (hr14.up hgW (Nat.le_refl _))
          have hwy2 := hgW.size
          have HGn := Lib.hid (Grew.trans HGi.out (Grew.trans HGw.out hgW))
          generalize runZ (rcvAt snd (fl.map Fts.fs) (recvR (totP ps) (idsOf ps) qs) k2) = zo at *
          generalize decide ((rcvAt snd (fl.map Fts.fs) (recvR (totP ps) (idsOf ps) qs) k2).miss = []) = bo at *
          have hcv1 := fun m => conv_row' (hr14.up (grew_drawn (w := wt) (w' := wt.drewN m) ⟨m, rfl⟩) hwy2) c14
          have hcv2 := fun m => conv_row' (hr16.up (grew_drawn (w := wt) (w' := wt.drewN m) ⟨m, rfl⟩) (Nat.le_refl _)) c16
          have hcv3 := conv_row' hr14 c14
          have hcv4 := conv_row' hr16 c16
          clear hgW hwt hown16 hr14 hr16 m0 m1 d0 hwy2
          cases bo
          all_goals
            go_wp2_with fail
            go_roundw
            case rel => exact ⟨i + 1, by omega, by go_num, HGn⟩
            case measure => simp [intOf]; omega
        · obtain rfl : i = vs.length := by omega
          have HGe := Lib.hid (Grew.trans HG11.out (Grew.trans HGc.out HGi.out))
          go_wp2_with fail
          refine (known37_any wr).mono ?_
          rintro e w20 ⟨rfl, hb20⟩
          have HGf : Hid (Grew w w20) := Lib.hid (Grew.trans HGe.out hb20)
          clear hb20
          go_wp2_with fail
          go_ret
          exact ⟨rfl, HGf.out⟩
end Go.Proofs.Ytpoiejgoongllaa
