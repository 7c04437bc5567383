/-
  stockyardlaw25.ManifestTrue returns true.
-/
import Derived.Test.YtnjhipnfhapngaaKnown25
import Derived.Test.YtnjhipnfhapngaaStock25
import Derived.Test.YtnjhipnfhapngaaTrue25
import Derived.Test.YtnjhipnfhapngaaWhole25
namespace Go.Proofs.Ytnjhipnfhapngaa
set_option linter.unusedVariables false
set_option linter.unusedSimpArgs false
set_option linter.unnecessarySimpa false
open Go.RowKit
attribute [local go_sem ↓] Go.wp_at_zero Go.wp_at_succ


set_option maxRecDepth 4000 in
set_option maxHeartbeats 2000000 in
theorem lawMTrue_any (A : Option Addr) (cap : Nat) (ls : List Int) (R : Option Addr) (rc : Nat) (rl : List ChZ) (w : World) (hr : Row w w.heap.size A (ls.map (.int .i64))) (hz : ∀ z ∈ ls, -9223372036854775808 ≤ z ∧ z ≤ 9223372036854775807) (hm : ls.length ≤ 9223372036854775807) (hraw : Row w w.heap.size R (chsC rl)) (hrlie : LieC w w.heap.size rl) (hrok : OkC rl) (hrl : rl.length * 40 ≤ 140737488351232) :
    Calls Try.prog 9 #[.slice A ls.length cap, .slice R rl.length rc] w fun e w' => e = .returned (.bool true) ∧ Below w.heap.size w w' := by
  have hT := Tp.new (cap := cap) hr (Nat.le_refl _) hz hm
  have g0 := grew_alloc w (.cells #[.slice A ls.length cap, .int .i64 0] 26)
  have hch0 : Ch (At w.heap.size) w (w.alloc (.cells #[.slice A ls.length cap, .int .i64 0] 26)) := Ch.of_below g0
  clear hz g0 hr
  go_enter Try.func9, Try.ntmps9
  go_wp2_with fail
  generalize w.alloc (.cells #[.slice A ls.length cap, .int .i64 0] 26) = w1 at *
  refine (pieces25_any _ _ _ 6 _ hT (by omega) (by omega)).mono ?_
  rintro e w2 ⟨Ap, cp, ps, rfl, hpl, hS, hownp, hTx, hT2, hch, hcaps⟩
  have hb2 : Grew w w2 := (hch0.trans hch).below (Nat.le_refl _) (fun i hi => by rw [hi]; exact Nat.le_refl _)
  have htl0 := hT.lt
  have htl := hT2.lt
  have h12 := hch.size
  clear hT hch hch0
  have hsm := small_sum hS
  have HPm := Lib.hid (small_pm hS)
  have HCaps := Lib.hid hcaps
  clear hcaps
  go_wp2_with fail
  refine (refOf25_any Ap cp _ _ ps w2 hownp hTx (fun p hp => (hS p hp).2.2) (by omega) (by have : totP ps ≤ 1073741824 := by omega
                                                                                           exact this)).mono ?_
  rintro e w3 ⟨A2, c2, rfl, hown2, hb⟩
  rw [totP_of]
  replace hT2 := hT2.of hb
  replace hownp := own_below hownp hb
  replace hTx := hTx.of hb
  replace hb2 := Grew.trans hb2 hb
  have htl3 := hT2.lt
  have h23 := hb.size
  clear hb
  have hS2 := hS
  have hM := Blk.new w3 31 #[.int .i64 (totP ps : Nat), .slice A2 ps.length c2]
  have gM := grew_alloc w3 (.cells #[.int .i64 (totP ps : Nat), .slice A2 ps.length c2] 31)
  have hgm : ¬ At w.heap.size w3.heap.size := by have := hb2.size; show ¬ _ = _; omega
  replace hb2 := Grew.trans hb2 gM
  replace hT2 := hT2.of gM
  replace hTx := hTx.of gM
  replace hownp := own_below hownp gM
  replace hown2 := own_below hown2 gM
  have hck := small_chk hS (by omega)
  rw [totP_of] at hck
  have HCk := Lib.hid hck
  have HWI := Lib.hid (small_wf hS)
  have hpl6 : ps.length ≤ 6 := by omega
  have n72 : totP ps ≤ 54 := by omega
  have htw := hT2.lt
  have hc2 := own_cap hown2
  clear gM hck
  go_upto_region 4 with (fail)
  have hg35 : w3.heap.size ≤ (w3.alloc (.cells #[.int .i64 (totP ps : Nat), .slice A2 ps.length c2] 31)).heap.size := by simp
  generalize w3.alloc (.cells #[.int .i64 (totP ps : Nat), .slice A2 ps.length c2] 31) = w5 at *
  generalize w3.heap.size = gm at *
  clear w3
  have hws5 := Below.size hb2
  have HSk := Lib.hid (fun W (h : Grew w5 W) => stock25_any _ _ _ _ w1.heap.size Ap cp ps W (hT2.of h) (own_below hownp h) htl0 (hTx.of h) (by have := h.size; omega) hS HCaps.out (by omega) (by omega) (Nat.le_trans hws5 h.size))
  have m0 := (hM.cell 0).trans (show _ = some (.int .i64 (totP ps : Nat)) from rfl)
  have m1 := (hM.cell 1).trans (show _ = some (.slice A2 ps.length c2) from rfl)
  clear hS hS2
  refine wp_region_cls (Ch (At w.heap.size) w5) 11 (by kernel_rfl) ?_
  have hc0 := (Ch.refl (At w.heap.size) w5).drew
  refine AllC.head 0 3 (fuel := 9) (by first | exact fun h k => Grew.trans h k | exact fun h k => cls_grew h k) (hc0) (by rfl) (by kernel_rfl) ?_
  simp only [List.take_succ_cons, List.take_zero, List.drop_succ_cons, List.drop_zero]
  repeat (first
    | (refine HeadC.val (by rfl) ?_
       apply Exists.intro
       refine ⟨fun w' hw' => ?_, ?_⟩
       · (have hf_0 := hw'.cell m0 hgm; have hf_1 := hw'.cell m1 hgm; (go_simp) <;> (try go_ints) <;> with_reducible rfl)
       try simp only [Act.put, List.setIfInBounds_toArray, List.set_cons_zero, List.set_cons_succ])
    | (refine HeadC.shut (by rfl) ?_
       try simp only [Act.put, List.setIfInBounds_toArray, List.set_cons_zero, List.set_cons_succ]))
  refine HeadC.nil ?_
  refine AllC.head 4 1 (fuel := 8) (by first | exact fun h k => Grew.trans h k | exact fun h k => cls_grew h k) (hc0) (by rfl) (by kernel_rfl) ?_
  simp only [List.take_succ_cons, List.take_zero, List.drop_succ_cons, List.drop_zero]
  repeat (first
    | (refine HeadC.val (by rfl) ?_
       apply Exists.intro
       refine ⟨fun w' hw' => ?_, ?_⟩
       · ((go_simp) <;> (try go_ints) <;> with_reducible rfl)
       try simp only [Act.put, List.setIfInBounds_toArray, List.set_cons_zero, List.set_cons_succ])
    | (refine HeadC.shut (by rfl) ?_
       try simp only [Act.put, List.setIfInBounds_toArray, List.set_cons_zero, List.set_cons_succ]))
  refine HeadC.nil ?_
  refine AllC.one 3 (by kernel_rfl) rfl ?_
  intro wg hg1 K hK
  go_simp
  have hg' : Grew w5 wg := (grew_drew _).trans hg1
  refine (HSk.out wg hg').mono ?_
  clear HSk
  rintro e w6 ⟨cl, Ac, cc, rfl, hSt, hcl, hownc, hTxc, hT6, hch6⟩
  have hwg := hg'.size
  have hc6 : Ch (At w.heap.size) w5 w6 := (Ch.of_below hg').trans hch6
  replace hownc := own_mono hownc hwg
  refine hK.out _ _ hc6 ?_
  clear hK K hch6 hg' hg1 hc0
  try simp only [Act.put, List.setIfInBounds_toArray, List.set_cons_zero, List.set_cons_succ]
  refine AllC.one 5 (by kernel_rfl) rfl ?_
  intro wg hg K hK
  have hcg := hc6.next hg
  have hbg : Grew w wg := Below.trans (B := w.heap.size) hb2 (hcg.below hws5 (fun i hi => by rw [hi]; exact Nat.le_refl _))
  have hownc2 := own_below hownc hg
  refine step_append_row rfl (.tmp 23) (.tmp 24) rfl w5.heap.size elem_chunk (by rfl) hownc2 _ (by rfl) (chsC_len rl) (hraw.below hbg (Nat.le_refl _)) (ones_chs rl) (by unfold maxLen; omega) (by omega) hcg.size ?_
  intro A8 c8 w8 hown8 hg8 _
  have hch8 : Ch (At w.heap.size) w5 w8 := hcg.nextNew (Ch.of_own hg8) (fun i hi => .inl (own_lt hownc2 i hi))
  have hTx8 := (hTxc.of hg).ch (Ch.of_own hg8) (own_noBytes hownc2 (by decide))
  refine hK.out _ _ hch8 ?_
  clear hK K hg hcg hg8 hownc2 hc6 hownc hTxc hT6 hbg
  try simp only [Act.put, List.setIfInBounds_toArray, List.set_cons_zero, List.set_cons_succ]
  have hokl : OkC (cl ++ rl) := fun c hc => (List.mem_append.1 hc).elim (hSt.okC c) (hrok c)
  have Hok := Lib.hid hokl
  have hb8 : Grew w w8 := Below.trans (B := w.heap.size) hb2 (hch8.below hws5 (fun i hi => by rw [hi]; exact Nat.le_refl _))
  have hlil : LieC w8 w8.heap.size (cl ++ rl) := fun c hc => (List.mem_append.1 hc).elim (fun h => (hTx8 c.p (List.mem_map.2 ⟨c, h, rfl⟩)).row) (fun h => ((hrlie c h).below hb8 (Nat.le_refl _)).more (Below.size hb8))
  rw [← chsC_append] at hown8
  have hnl : (cl ++ rl).length = cl.length + rl.length := List.length_append
  have hll : (cl ++ rl).length ≤ 4611686018427387904 := by omega
  rw [← hnl] at hown8 ⊢
  clear hTx8 hokl hraw hrlie hrok hnl hSt hcl
  generalize cl ++ rl = l at *
  refine AllC.one 6 (by kernel_rfl) rfl ?_
  intro wg hg K hK
  go_simp
  have hcw := hch8.next hg
  have hrI := own_row (own_ch hown2 hcw (fun g hg hs => by have := own_lt hown2 g hg; have h' : g = w.heap.size := hs; omega))
  have HA := assemble25_any (totP ps : Nat) A2 c2 wg.heap.size (idsOf ps) A8 c8 l wg hrI HWI.out (own_row (own_below hown8 hg)) (fun c hc => ((hlil c hc).up hg (Nat.le_refl _)).more hg.size) Hok.out (Nat.le_refl _) (by rw [idsOf_length]; omega) hll
  unfold RangeRes at HA
  rw [idsOf_length] at HA
  refine HA.mono ?_
  clear HA hrI hlil hown8
  rintro e w9 ⟨A9, c9, rfl, hown9, hb⟩
  have hc9 := hcw.next hb
  refine hK.out _ _ hc9 ?_
  clear hK K hg hcw hch8 hb
  try simp only [Act.put, List.setIfInBounds_toArray, List.set_cons_zero, List.set_cons_succ]
  refine AllC.head 7 4 (fuel := 1) (by first | exact fun h k => Grew.trans h k | exact fun h k => cls_grew h k) (hc9) (by rfl) (by kernel_rfl) ?_
  simp only [List.take_succ_cons, List.take_zero, List.drop_succ_cons, List.drop_zero]
  repeat (first
    | (refine HeadC.val (by rfl) ?_
       apply Exists.intro
       refine ⟨fun w' hw' => ?_, ?_⟩
       · ((go_simp) <;> (try go_ints) <;> with_reducible rfl)
       try simp only [Act.put, List.setIfInBounds_toArray, List.set_cons_zero, List.set_cons_succ])
    | (refine HeadC.shut (by rfl) ?_
       try simp only [Act.put, List.setIfInBounds_toArray, List.set_cons_zero, List.set_cons_succ]))
  refine HeadC.nil ?_
  refine AllC.tail 11 (by rfl) (by kernel_rfl) ?_
  intro wt hwt
  simp only [List.drop_succ_cons, List.drop_zero]
  have hc10 := hc9.next hwt
  replace hown9 := own_below hown9 hwt
  clear hwt hc9 m0 m1 hb8
  replace hM := hM.ch hc10 hgm
  have m0 := (hM.cell 0).trans (show _ = some (.int .i64 (totP ps : Nat)) from rfl)
  have m1 := (hM.cell 1).trans (show _ = some (.slice A2 ps.length c2) from rfl)
  have hrI := own_row (own_ch hown2 hc10 (fun g hg hs => by have := own_lt hown2 g hg; have h' : g = w.heap.size := hs; omega))
  have hbt : Grew w wt := Below.trans (B := w.heap.size) hb2 (hc10.below hws5 (fun i hi => by rw [hi]; exact Nat.le_refl _))
  have HW := whole25_any (totP ps : Nat) A2 c2 wt.heap.size (idsOf ps) wt hrI HWI.out (Nat.le_refl _) (by rw [idsOf_length]; omega)
  have hwh : whE (totP ps : Nat) (idsOf ps) = idOf (flat ps) := by
    unfold whE
    rw [if_pos HCk.out, whS_of (by omega)]
  rw [idsOf_length, hwh, HCk.out] at HW
  unfold idOf at HW
  simp only [flat_len] at HW
  have HW := Lib.hid HW
  have HTr := Lib.hid (fun he => (true_law (l := l) HCk.out he))
  rw [whS_of (by omega)] at HTr
  have hByx : rangeE l (totP ps : Nat) (idsOf ps) 0 (totP ps : Nat) = 0 → Byt (rangeB l (totP ps : Nat) (idsOf ps) 0 (totP ps : Nat)) := fun he => range_byt Hok.out he
  have HByx := Lib.hid hByx
  clear hByx
  generalize rangeB l (totP ps : Nat) (idsOf ps) 0 (totP ps : Nat) = xs at *
  generalize rangeE l (totP ps : Nat) (idsOf ps) 0 (totP ps : Nat) = ex at *
  clear hwh hrI hc10
  go_wp2_with fail
  refine HW.out.mono ?_
  clear HW
  rintro e wb ⟨rfl, hgb⟩
  have hI := Blk.new wb 51 #[.int .u64 (sumZ (flat ps)), .int .i64 (totP ps : Nat)]
  have hgI := grew_alloc wb (.cells #[.int .u64 (sumZ (flat ps)), .int .i64 (totP ps : Nat)] 51)
  replace hgb := Grew.trans hgb hgI
  replace hM := hM.of hgb
  replace hown9 := own_below hown9 hgb
  replace hbt := Grew.trans hbt hgb
  clear hgI hgb m0 m1
  have hr9 := own_row hown9
  go_upto_region 6 with (fail)
  generalize wb.alloc (.cells #[.int .u64 (sumZ (flat ps)), .int .i64 (totP ps : Nat)] 51) = wi at *
  generalize wb.heap.size = gi at *
  clear wb
  have i0 := (hI.cell 0).trans (show _ = some (.int .u64 (sumZ (flat ps))) from rfl)
  have i1 := (hI.cell 1).trans (show _ = some (.int .i64 (totP ps : Nat)) from rfl)
  have m0 := (hM.cell 0).trans (show _ = some (.int .i64 (totP ps : Nat)) from rfl)
  by_cases hex : ex = 0
  · subst hex
    obtain ⟨t1, t2⟩ := HTr.out rfl
    have hby := HByx.out rfl
    have e0 : sumZ xs = sumZ (flat ps) := congrArg Prod.fst t1
    have hxl : xs.length = totP ps := by omega
    have HOf := Lib.hid (fun W (h : Grew wi W) => of_any A9 c9 wi.heap.size xs W (hr9.up h (Nat.le_refl _)) h.size hby (by omega))
    rw [e0, hxl] at HOf
    have HXL := Lib.hid hxl
    rw [hxl]
    clear t1 t2 hby e0 hxl HTr HByx
    refine wp_region_g 22 (by kernel_rfl) ?_
    refine AllC.head 0 22 (fuel := 1) (by first | exact fun h k => Grew.trans h k | exact fun h k => cls_grew h k) (grew_drew _) (by rfl) (by kernel_rfl) ?_
    simp only [List.take_succ_cons, List.take_zero, List.drop_succ_cons, List.drop_zero]
    repeat (first
      | (refine HeadC.val (by rfl) ?_
         apply Exists.intro
         refine ⟨fun w' hw' => ?_, ?_⟩
         · (have hf_0 := cell_up hw' i0; have hf_1 := cell_up hw' i1; have hf_2 := cell_up hw' m0; (go_simp) <;> (try go_ints) <;> with_reducible rfl)
         try simp only [Act.put, List.setIfInBounds_toArray, List.set_cons_zero, List.set_cons_succ])
      | (refine HeadC.call (by rfl) ?_
         apply Exists.intro; apply Exists.intro
         refine ⟨fun w' hw' => ?_, ?_⟩
         · (have hf_0 := cell_up hw' i0; have hf_1 := cell_up hw' i1; have hf_2 := cell_up hw' m0; (go_simp) <;> first | (refine ⟨?_, ?_⟩ <;> with_reducible rfl) | with_reducible rfl)
         apply Exists.intro
         refine ⟨fun w' hw' => ?_, ?_⟩
         · (first | exact known25_any w' | exact HOf.out _ hw')
         try simp only [Act.put, List.setIfInBounds_toArray, List.set_cons_zero, List.set_cons_succ])
      | (refine HeadC.shut (by rfl) ?_
         try simp only [Act.put, List.setIfInBounds_toArray, List.set_cons_zero, List.set_cons_succ]))
    refine HeadC.nil ?_
    refine AllC.tail 22 (by rfl) (by kernel_rfl) ?_
    intro wt hwt
    simp only [List.drop_succ_cons, List.drop_zero]
    have hgt := (grew_drew wi).trans hwt
    go_wp2_with fail
    go_ret
    exact ⟨ret_bool rfl, Grew.trans hbt hgt⟩
  · have hne : (ex != 0) = true := by rw [bne_iff_ne]; exact hex
    clear hex HTr HByx
    refine wp_region_g 22 (by kernel_rfl) ?_
    refine AllC.head 0 22 (fuel := 1) (by first | exact fun h k => Grew.trans h k | exact fun h k => cls_grew h k) (grew_drew _) (by rfl) (by kernel_rfl) ?_
    simp only [List.take_succ_cons, List.take_zero, List.drop_succ_cons, List.drop_zero]
    repeat (first
      | (refine HeadC.val (by rfl) ?_
         apply Exists.intro
         refine ⟨fun w' hw' => ?_, ?_⟩
         · (have hf_0 := cell_up hw' i0; have hf_1 := cell_up hw' i1; have hf_2 := cell_up hw' m0; (go_simp) <;> (try go_ints) <;> with_reducible rfl)
         try simp only [Act.put, List.setIfInBounds_toArray, List.set_cons_zero, List.set_cons_succ])
      | (refine HeadC.call (by rfl) ?_
         apply Exists.intro; apply Exists.intro
         refine ⟨fun w' hw' => ?_, ?_⟩
         · (have hf_0 := cell_up hw' i0; have hf_1 := cell_up hw' i1; have hf_2 := cell_up hw' m0; (go_simp) <;> first | (refine ⟨?_, ?_⟩ <;> with_reducible rfl) | with_reducible rfl)
         apply Exists.intro
         refine ⟨fun w' hw' => ?_, ?_⟩
         · (first | exact known25_any w')
         try simp only [Act.put, List.setIfInBounds_toArray, List.set_cons_zero, List.set_cons_succ])
      | (refine HeadC.shut (by rfl) ?_
         try simp only [Act.put, List.setIfInBounds_toArray, List.set_cons_zero, List.set_cons_succ]))
    refine HeadC.nil ?_
    refine AllC.tail 22 (by rfl) (by kernel_rfl) ?_
    intro wt hwt
    simp only [List.drop_succ_cons, List.drop_zero]
    have hgt := (grew_drew wi).trans hwt
    go_wp2_with fail
    go_ret
    exact ⟨ret_bool rfl, Grew.trans hbt hgt⟩

end Go.Proofs.Ytnjhipnfhapngaa
