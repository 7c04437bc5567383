/-
  stockyardlaw25.ManifestAssembles returns true.
-/
import Derived.Test.YtnjhipnfhapngaaKnown25
import Derived.Test.YtnjhipnfhapngaaStock25
import Derived.Test.YtnjhipnfhapngaaTrue25
import Derived.Test.YtnjhipnfhapngaaRef25
namespace Go.Proofs.Ytnjhipnfhapngaa
set_option linter.unusedVariables false
set_option linter.unusedSimpArgs false
set_option linter.unnecessarySimpa false
open Go.RowKit
attribute [local go_sem ↓] Go.wp_at_zero Go.wp_at_succ


set_option maxRecDepth 4000 in
set_option maxHeartbeats 2000000 in
theorem lawMAssembles_any (A : Option Addr) (cap : Nat) (ls : List Int) (R : Option Addr) (rc : Nat) (rl : List ChZ) (w : World) (hr : Row w w.heap.size A (ls.map (.int .i64))) (hz : ∀ z ∈ ls, -9223372036854775808 ≤ z ∧ z ≤ 9223372036854775807) (hm : ls.length ≤ 9223372036854775807) (hraw : Row w w.heap.size R (chsC rl)) (hrlie : LieC w w.heap.size rl) (hrok : OkC rl) (hrl : rl.length * 40 ≤ 140737488351232) :
    Calls Try.prog 3 #[.slice A ls.length cap, .slice R rl.length rc] w fun e w' => e = .returned (.bool true) ∧ Below w.heap.size w w' := by
  have hT := Tp.new (cap := cap) hr (Nat.le_refl _) hz hm
  have g0 := grew_alloc w (.cells #[.slice A ls.length cap, .int .i64 0] 26)
  have hch0 : Ch (At w.heap.size) w (w.alloc (.cells #[.slice A ls.length cap, .int .i64 0] 26)) := Ch.of_below g0
  clear hz g0 hr
  go_enter Try.func3, Try.ntmps3
  go_wp2_with fail
  generalize w.alloc (.cells #[.slice A ls.length cap, .int .i64 0] 26) = w1 at *
  refine (pieces25_any _ _ _ 6 _ hT (by omega) (by omega)).mono ?_
  rintro e w2 ⟨Ap, cp, ps, rfl, hpl, hS, hownp, hTx, hT2, hch, hcaps⟩
  have hb2 : Grew w w2 := (hch0.trans hch).below (Nat.le_refl _) (fun i hi => by rw [hi]; exact Nat.le_refl _)
  have htl0 := hT.lt
  have htl := hT2.lt
  have h12 := hch.size
  clear hT hch hch0
  have hsm := small_sum hS
  have HPm := Lib.hid (small_pm hS)
  have HCaps := Lib.hid hcaps
  clear hcaps
  go_wp2_with fail
  refine (refOf25_any Ap cp _ _ ps w2 hownp hTx (fun p hp => (hS p hp).2.2) (by omega) (by have : totP ps ≤ 1073741824 := by omega
                                                                                           exact this)).mono ?_
  rintro e w3 ⟨A2, c2, rfl, hown2, hb⟩
  rw [totP_of]
  replace hT2 := hT2.of hb
  replace hownp := own_below hownp hb
  replace hTx := hTx.of hb
  replace hb2 := Grew.trans hb2 hb
  have htl3 := hT2.lt
  have h23 := hb.size
  clear hb
  have hS2 := hS
  have hM := Blk.new w3 31 #[.int .i64 (totP ps : Nat), .slice A2 ps.length c2]
  have gM := grew_alloc w3 (.cells #[.int .i64 (totP ps : Nat), .slice A2 ps.length c2] 31)
  have hgm : ¬ At w.heap.size w3.heap.size := by have := hb2.size; show ¬ _ = _; omega
  replace hb2 := Grew.trans hb2 gM
  replace hT2 := hT2.of gM
  replace hTx := hTx.of gM
  replace hownp := own_below hownp gM
  replace hown2 := own_below hown2 gM
  have hck := small_chk hS (by omega)
  rw [totP_of] at hck
  have HCk := Lib.hid hck
  have HWI := Lib.hid (small_wf hS)
  have hpl6 : ps.length ≤ 6 := by omega
  have n72 : totP ps ≤ 54 := by omega
  have htw := hT2.lt
  have hc2 := own_cap hown2
  clear gM hck
  go_upto_region 4 with (fail)
  have hg35 : w3.heap.size ≤ (w3.alloc (.cells #[.int .i64 (totP ps : Nat), .slice A2 ps.length c2] 31)).heap.size := by simp
  generalize w3.alloc (.cells #[.int .i64 (totP ps : Nat), .slice A2 ps.length c2] 31) = w5 at *
  generalize w3.heap.size = gm at *
  clear w3
  have hws5 := Below.size hb2
  go_upto_region 4 with (fail)
  have HSk := Lib.hid (stock25_any _ _ _ _ w1.heap.size Ap cp ps w5 hT2 hownp htl0 hTx (by omega) hS HCaps.out (by omega) (by omega) hws5)
  clear hS hS2
  go_wp2_with fail
  refine HSk.out.mono ?_
  clear HSk
  rintro e w6 ⟨cl, Ac, cc, rfl, hSt, hcl, hownc, hTxc, hT6, hch6⟩
  have hb6 : Grew w w6 := Below.trans (B := w.heap.size) hb2 (hch6.below hws5 (fun i hi => by rw [hi]; exact Nat.le_refl _))
  have hw56 := hch6.size
  go_wp2_with (at_builtin; refine wpList_append_row rfl (.tmp 28) (.tmp 29) rfl w5.heap.size elem_chunk (by rfl) hownc _ (by rfl) (chsC_len rl) (hraw.below hb6 (Nat.le_refl _)) (ones_chs rl) (by unfold maxLen; omega) (by omega) hw56 ?_; intro A8 c8 w8 hown8 hg8 _; have hch8 : Ch (At w.heap.size) w5 w8 := hch6.nextNew (Ch.of_own hg8) (fun i hi => .inl (own_lt hownc i hi)); have hM8 := hM.ch hch8 hgm; have m0 := (hM8.cell 0).trans (show _ = some (.int .i64 (totP ps : Nat)) from rfl); have m1 := (hM8.cell 1).trans (show _ = some (.slice A2 ps.length c2) from rfl))
  have hTx8 := hTxc.ch (Ch.of_own hg8) (own_noBytes hownc (by decide))
  have hb8 : Grew w w8 := Below.trans (B := w.heap.size) hb6 ((Ch.of_own hg8).below (Below.size hb6) (fun i hi => Nat.le_trans hws5 (own_lt hownc i hi)))
  have hT8 := tape_own hT6 hownc hg8 (by decide) hws5
  have hokl : OkC (cl ++ rl) := fun c hc => (List.mem_append.1 hc).elim (hSt.okC c) (hrok c)
  have hlil : LieC w8 w8.heap.size (cl ++ rl) := fun c hc => (List.mem_append.1 hc).elim (fun h => (hTx8 c.p (List.mem_map.2 ⟨c, h, rfl⟩)).row) (fun h => ((hrlie c h).below hb8 (Nat.le_refl _)).more (Below.size hb8))
  rw [← chsC_append] at hown8
  have hnl : (cl ++ rl).length = cl.length + rl.length := List.length_append
  have hll : (cl ++ rl).length ≤ 4611686018427387904 := by omega
  rw [← hnl] at hown8
  have hown5 := own_ch hown2 hch8 (fun g hg hs => by have := own_lt hown2 g hg; have h' : g = w.heap.size := hs; omega)
  have Hok := Lib.hid hokl
  have HNl := Lib.hid hnl
  have hw8 := Below.size hb8
  have hw88 := hT8.lt
  have HF := Lib.hid (fun W (h : Ch (At w.heap.size) w8 W) => (show Row W W.heap.size A2 (idsC (idsOf ps)) ∧ Row W W.heap.size A8 (chsC (cl ++ rl)) ∧ LieC W W.heap.size (cl ++ rl) from
    ⟨own_row (own_ch hown5 h (fun g hg hs => by have := own_lt hown5 g hg; have h' : g = w.heap.size := hs; omega)), own_row (own_ch hown8 h (fun g hg hs => by have := own_lt hown8 g hg; have h' : g = w.heap.size := hs; omega)),
     fun c hc => (List.mem_append.1 hc).elim (fun h1 => (hTx8.ch h (tape_noBytes' hT8) c.p (List.mem_map.2 ⟨c, h1, rfl⟩)).row) (fun h1 => ((hrlie c h1).below (Below.trans (B := w.heap.size) hb8 (h.below hw8 (fun i hi => by rw [hi]; exact Nat.le_refl _))) (Nat.le_refl _)).more (Nat.le_trans hw8 h.size))⟩))
  clear hokl hcl hSt hownc hTxc hT6 hch6 hb6 hg8 hTx8 hown8 hraw hrlie hrok hown5 hlil
  rw [← hnl]
  clear hnl
  generalize cl ++ rl = l at *
  have HA := Lib.hid (fun W h => assemble25_any (totP ps : Nat) A2 c2 W.heap.size (idsOf ps) A8 c8 l W (HF.out W h).1 HWI.out (HF.out W h).2.1 (HF.out W h).2.2 Hok.out (Nat.le_refl _) (by rw [idsOf_length]; omega) hll)
  have HRa := Lib.hid (fun W h => refAssemble25_any (totP ps : Nat) A2 c2 W.heap.size (idsOf ps) A8 c8 l W (HF.out W h).1 (HF.out W h).2.1 (HF.out W h).2.2 Hok.out (Nat.le_refl _) (by rw [idsOf_length]; omega) hll)
  have HB := Lib.hid (fun f t W h => range25_any (totP ps : Nat) A2 c2 W.heap.size (idsOf ps) f t A8 c8 l W (HF.out W h).1 HWI.out (HF.out W h).2.1 (HF.out W h).2.2 Hok.out (Nat.le_refl _) (by rw [idsOf_length]; omega) hll)
  have HRb := Lib.hid (fun f t W h => refRange25_any (totP ps : Nat) A2 c2 W.heap.size (idsOf ps) f t A8 c8 l W (HF.out W h).1 (HF.out W h).2.1 (HF.out W h).2.2 Hok.out (Nat.le_refl _) (by rw [idsOf_length]; omega) hll)
  unfold RangeRes at HA HRa HB HRb
  rw [idsOf_length] at HA HRa HB HRb
  generalize rangeB l (totP ps : Nat) (idsOf ps) 0 (totP ps : Nat) = xs at *
  generalize rangeE l (totP ps : Nat) (idsOf ps) 0 (totP ps : Nat) = ex at *
  clear HF
  refine (HA.out w8 (Ch.refl _ _)).mono ?_
  clear HA
  rintro e w9 ⟨A9, c9, rfl, hown9, hb⟩
  have hch := (Ch.refl (At w.heap.size) w8).next hb
  have hw9 := hch.size
  replace hM8 := hM8.of hb
  replace hb8 := Grew.trans hb8 hb
  replace hT8 := hT8.of hb
  clear hb m0 m1
  have m0 := (hM8.cell 0).trans (show _ = some (.int .i64 (totP ps : Nat)) from rfl)
  have m1 := (hM8.cell 1).trans (show _ = some (.slice A2 ps.length c2) from rfl)
  go_wp2_with fail
  refine (HRa.out w9 hch).mono ?_
  clear HRa
  rintro e w10 ⟨A10, c10, rfl, hown10, hb⟩
  replace hch := hch.next hb
  replace hM8 := hM8.of hb
  replace hown9 := own_below hown9 hb
  replace hb8 := Grew.trans hb8 hb
  replace hT8 := hT8.of hb
  clear hb m0 m1
  have m0 := (hM8.cell 0).trans (show _ = some (.int .i64 (totP ps : Nat)) from rfl)
  have m1 := (hM8.cell 1).trans (show _ = some (.slice A2 ps.length c2) from rfl)
  have htw8 := hT8.lt
  go_upto_region 7 with (fail)
  refine wp_region_cls (Ch (At w.heap.size) w10) 12 (by kernel_rfl) ?_
  have hc0 := (Ch.refl (At w.heap.size) w10).drew
  refine AllC.head 0 4 (fuel := 9) (by first | exact fun h k => Grew.trans h k | exact fun h k => cls_grew h k) (hc0) (by rfl) (by kernel_rfl) ?_
  simp only [List.take_succ_cons, List.take_zero, List.drop_succ_cons, List.drop_zero]
  repeat (first
    | (refine HeadC.val (by rfl) ?_
       apply Exists.intro
       refine ⟨fun w' hw' => ?_, ?_⟩
       · (have hf_0 := hw'.cell m0 hgm; (go_simp) <;> (try go_ints) <;> with_reducible rfl)
       try simp only [Act.put, List.setIfInBounds_toArray, List.set_cons_zero, List.set_cons_succ])
    | (refine HeadC.shut (by rfl) ?_
       try simp only [Act.put, List.setIfInBounds_toArray, List.set_cons_zero, List.set_cons_succ]))
  refine HeadC.nil ?_
  refine AllC.head 5 4 (fuel := 5) (by first | exact fun h k => Grew.trans h k | exact fun h k => cls_grew h k) (hc0) (by rfl) (by kernel_rfl) ?_
  simp only [List.take_succ_cons, List.take_zero, List.drop_succ_cons, List.drop_zero]
  repeat (first
    | (refine HeadC.val (by rfl) ?_
       apply Exists.intro
       refine ⟨fun w' hw' => ?_, ?_⟩
       · (have hf_0 := hw'.cell m0 hgm; (go_simp) <;> (try go_ints) <;> with_reducible rfl)
       try simp only [Act.put, List.setIfInBounds_toArray, List.set_cons_zero, List.set_cons_succ])
    | (refine HeadC.shut (by rfl) ?_
       try simp only [Act.put, List.setIfInBounds_toArray, List.set_cons_zero, List.set_cons_succ]))
  refine HeadC.nil ?_
  refine AllC.one 4 (by kernel_rfl) rfl ?_
  intro wg hg1 K hK
  go_simp
  have hg' : Grew w10 wg := (grew_drew _).trans hg1
  refine (tapeNext_any _ _ _ _ _ (hT8.of hg') (by omega) (by omega)).mono ?_
  rintro e w11 ⟨x1, rfl, hx1, hT11, hch2⟩
  have hc5 : Ch (At w.heap.size) w10 w11 := (Ch.of_below hg').trans hch2
  refine hK.out _ _ hc5 ?_
  clear hK K hch2 hg' hg1 hc0
  try simp only [Act.put, List.setIfInBounds_toArray, List.set_cons_zero, List.set_cons_succ]
  refine AllC.one 9 (by kernel_rfl) rfl ?_
  intro wg hg1 K hK
  go_simp
  refine (tapeNext_any _ _ _ _ _ (hT11.of hg1) (by omega) (by omega)).mono ?_
  rintro e w12 ⟨x2, rfl, hx2, hT12, hch2⟩
  have hc6 : Ch (At w.heap.size) w10 w12 := (hc5.next hg1).trans hch2
  refine hK.out _ _ hc6 ?_
  clear hK K hch2 hg1 hc5
  try simp only [Act.put, List.setIfInBounds_toArray, List.set_cons_zero, List.set_cons_succ]
  have hx1' : x1 ≤ 56 := by omega
  have hx2' : x2 ≤ 57 := by omega
  refine AllC.head 10 2 (fuel := 1) (by first | exact fun h k => Grew.trans h k | exact fun h k => cls_grew h k) (hc6) (by rfl) (by kernel_rfl) ?_
  simp only [List.take_succ_cons, List.take_zero, List.drop_succ_cons, List.drop_zero]
  repeat (first
    | (refine HeadC.val (by rfl) ?_
       apply Exists.intro
       refine ⟨fun w' hw' => ?_, ?_⟩
       · ((go_simp) <;> (try go_ints) <;> with_reducible rfl)
       try simp only [Act.put, List.setIfInBounds_toArray, List.set_cons_zero, List.set_cons_succ])
    | (refine HeadC.shut (by rfl) ?_
       try simp only [Act.put, List.setIfInBounds_toArray, List.set_cons_zero, List.set_cons_succ]))
  refine HeadC.nil ?_
  refine AllC.tail 12 (by rfl) (by kernel_rfl) ?_
  intro wt hwt
  simp only [List.drop_succ_cons, List.drop_zero]
  have hc7 := hc6.next hwt
  replace hch := hch.trans hc7
  replace hM8 := hM8.ch hc7 hgm
  replace hown9 := own_ch hown9 hc7 (fun g hg hs => by have := own_lt hown9 g hg; have h' : g = w.heap.size := hs; omega)
  replace hown10 := own_ch hown10 hc7 (fun g hg hs => by have := own_lt hown10 g hg; have h' : g = w.heap.size := hs; omega)
  replace hb8 : Grew w wt := Below.trans (B := w.heap.size) hb8 (hc7.below (Below.size hb8) (fun i hi => by rw [hi]; exact Nat.le_refl _))
  clear hc6 hc7 hwt hT8 hT11 hT12 m0 m1 hx1 hx2
  have m0 := (hM8.cell 0).trans (show _ = some (.int .i64 (totP ps : Nat)) from rfl)
  have m1 := (hM8.cell 1).trans (show _ = some (.slice A2 ps.length c2) from rfl)
  have HB2 := Lib.hid (fun W h => HB.out x1 ((x2 : Int) - 1) W h)
  have HRb2 := Lib.hid (fun W h => HRb.out x1 ((x2 : Int) - 1) W h)
  clear HB HRb
  generalize rangeB l (totP ps : Nat) (idsOf ps) x1 ((x2 : Int) - 1) = us at *
  generalize rangeE l (totP ps : Nat) (idsOf ps) x1 ((x2 : Int) - 1) = eu at *
  generalize (x2 : Int) - 1 = y2 at *
  go_wp2_with fail
  refine (HB2.out wt hch).mono ?_
  clear HB2
  rintro e w13 ⟨A13, c13, rfl, hown13, hb⟩
  replace hch := hch.next hb
  replace hM8 := hM8.of hb
  replace hown9 := own_below hown9 hb
  replace hown10 := own_below hown10 hb
  replace hb8 := Grew.trans hb8 hb
  clear hb m0 m1
  have m0 := (hM8.cell 0).trans (show _ = some (.int .i64 (totP ps : Nat)) from rfl)
  have m1 := (hM8.cell 1).trans (show _ = some (.slice A2 ps.length c2) from rfl)
  go_wp2_with fail
  refine (HRb2.out w13 hch).mono ?_
  clear HRb2
  rintro e w14 ⟨A14, c14, rfl, hown14, hb⟩
  replace hown9 := own_below hown9 hb
  replace hown10 := own_below hown10 hb
  replace hown13 := own_below hown13 hb
  replace hb8 := Grew.trans hb8 hb
  clear hb m0 m1 hM8 hch
  go_wp2_with fail
  refine (known25_any _).mono ?_
  rintro e w15 ⟨rfl, hb⟩
  replace hown9 := own_below hown9 hb
  replace hown10 := own_below hown10 hb
  replace hown13 := own_below hown13 hb
  replace hown14 := own_below hown14 hb
  replace hb8 := Grew.trans hb8 hb
  have hv9 := conv_row' (own_row hown9) c9
  have hv10 := conv_row' (own_row hown10) c10
  have hv13 := conv_row' (own_row hown13) c13
  have hv14 := conv_row' (own_row hown14) c14
  clear hb
  go_wp2_with fail
  go_ret
  exact ⟨ret_bool (by simp), hb8⟩

end Go.Proofs.Ytnjhipnfhapngaa
