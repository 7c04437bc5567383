/-
  stockyardlaw25.ManifestRanges returns true.
-/
import Derived.Test.YtnjhipnfhapngaaKnown25
import Derived.Test.YtnjhipnfhapngaaRight25
namespace Go.Proofs.Ytnjhipnfhapngaa
set_option linter.unusedVariables false
set_option linter.unusedSimpArgs false
set_option linter.unnecessarySimpa false
open Go.RowKit
attribute [local go_sem ↓] Go.wp_at_zero Go.wp_at_succ


set_option maxRecDepth 4000 in
set_option maxHeartbeats 2000000 in
theorem lawMRanges_any (A : Option Addr) (cap : Nat) (ls : List Int) (w : World) (hr : Row w w.heap.size A (ls.map (.int .i64))) (hz : ∀ z ∈ ls, -9223372036854775808 ≤ z ∧ z ≤ 9223372036854775807) (hm : ls.length ≤ 9223372036854775807) :
    Calls Try.prog 4 #[.slice A ls.length cap] w fun e w' => e = .returned (.bool true) ∧ Below w.heap.size w w' := by
  have hT := Tp.new (cap := cap) hr (Nat.le_refl _) hz hm
  have g0 := grew_alloc w (.cells #[.slice A ls.length cap, .int .i64 0] 26)
  have hch0 : Ch (At w.heap.size) w (w.alloc (.cells #[.slice A ls.length cap, .int .i64 0] 26)) := Ch.of_below g0
  clear hz g0 hr
  go_enter Try.func4, Try.ntmps4
  go_wp2_with fail
  generalize w.alloc (.cells #[.slice A ls.length cap, .int .i64 0] 26) = w1 at *
  refine (pieces25_any _ _ _ 6 _ hT (by omega) (by omega)).mono ?_
  rintro e w2 ⟨Ap, cp, ps, rfl, hpl, hS, hownp, hTx, hT2, hch, hcaps⟩
  have hb2 : Grew w w2 := (hch0.trans hch).below (Nat.le_refl _) (fun i hi => by rw [hi]; exact Nat.le_refl _)
  have htl0 := hT.lt
  have htl := hT2.lt
  clear hT hch hch0
  have hsm := small_sum hS
  have HPm := Lib.hid (small_pm hS)
  have HCaps := Lib.hid hcaps
  clear hcaps
  go_wp2_with fail
  refine (refOf25_any Ap cp _ _ ps w2 hownp hTx (fun p hp => (hS p hp).2.2) (by omega) (by have : totP ps ≤ 1073741824 := by omega
                                                                                           exact this)).mono ?_
  rintro e w3 ⟨A2, c2, rfl, hown2, hb⟩
  rw [totP_of]
  replace hT2 := hT2.of hb
  replace hownp := own_below hownp hb
  replace hTx := hTx.of hb
  replace hb2 := Grew.trans hb2 hb
  have htl3 := hT2.lt
  clear hb
  go_wp2_with fail
  refine (right25_any Ap cp ps w3 (own_row hownp) hTx.lie HPm.out (by omega)).mono ?_
  rintro e w4 ⟨A3, c3, rfl, hown3, hb⟩
  have hM := Blk.new w4 31 #[.int .i64 (totP ps : Nat), .slice A2 ps.length c2]
  have gM := grew_alloc w4 (.cells #[.int .i64 (totP ps : Nat), .slice A2 ps.length c2] 31)
  have hgm : ¬ At w.heap.size w4.heap.size := by have := hb.size; have := hb2.size; show ¬ _ = _; omega
  have h13 := Grew.trans hb gM
  have hb4 := Grew.trans hb2 h13
  have hT4 := hT2.of h13
  have hownp4 := own_below hownp h13
  have hTx4 := hTx.of h13
  have hown4 := own_below hown2 h13
  have hownR := own_below hown3 gM
  clear hb gM h13 hb2 hT2 hownp hTx hown2 hown3
  go_wp2_with fail
  generalize w4.alloc (.cells #[.int .i64 (totP ps : Nat), .slice A2 ps.length c2] 31) = w5 at *
  generalize w4.heap.size = gm at *
  clear w4
  refine (distinct_any Ap cp _ ps _ (own_row hownp4) hTx4.lie (Nat.le_refl _) (fun p hp => (HPm.out p hp).1) (fun p hp => (HPm.out p hp).2) (by omega)).mono ?_
  rintro e wd ⟨b, rfl, hd, hgt⟩
  replace hT4 := hT4.of hgt
  replace hTx4 := hTx4.of hgt
  replace hM := hM.of hgt
  replace hownp4 := own_below hownp4 hgt
  replace hown4 := own_below hown4 hgt
  replace hownR := own_below hownR hgt
  replace hb4 := Grew.trans hb4 hgt
  clear hgt
  by_cases hbt : b = true
  rotate_left
  · obtain rfl : b = false := by simpa using hbt
    clear hbt
    go_wp2_with fail
    go_ret
    exact ⟨rfl, hb4⟩
  subst hbt
  have HD := Lib.hid (hd rfl)
  clear hd
  have hck := small_chk hS (by omega)
  rw [totP_of] at hck
  have HCk := Lib.hid hck
  have HWI := Lib.hid (small_wf hS)
  have m0 : wd.cell? ⟨gm, 0, none⟩ = some (.int .i64 (totP ps : Nat)) := (hM.cell 0).trans rfl
  have n72 : totP ps ≤ 72 := by omega
  have n6 : ps.length ≤ 6 := by omega
  have hcap2 := own_cap hown4
  clear hck hS
  go_wp2_with fail
  refine (tapeNext_any _ _ _ _ _ hT4 (by omega) (by omega)).mono ?_
  rintro e we ⟨t, rfl, ht, hT5, hch⟩
  have htt : t ≤ totP ps := by omega
  clear ht m0
  go_wp2_with fail
  refine (tapeNext_any _ _ _ _ _ hT5 (by omega) (by omega)).mono ?_
  rintro e wf ⟨f, rfl, hf, hT6, hch2⟩
  have hft : f ≤ t := by omega
  replace hch := hch.trans hch2
  have hTx := hTx4.ch hch (tape_noBytes' hT4)
  have hown := own_ch hown4 hch (fun g hg hs => by have := own_lt hown4 g hg; have h' : g = w.heap.size := hs; omega)
  have hownr := own_ch hownR hch (fun g hg hs => by have := own_lt hownR g hg; have h' : g = w.heap.size := hs; omega)
  have hrR := own_row hownr
  have hrI := own_row hown
  have hlie := hTx.lie
  replace hM := hM.ch hch hgm
  replace hb4 : Below w.heap.size w wf := Below.trans (B := w.heap.size) hb4 (hch.below (Below.size hb4) (fun i hi => by rw [hi]; exact Nat.le_refl _))
  have m0 : wf.cell? ⟨gm, 0, none⟩ = some (.int .i64 (totP ps : Nat)) := (hM.cell 0).trans rfl
  have m1 : wf.cell? ⟨gm, 1, none⟩ = some (.slice A2 ps.length c2) := (hM.cell 1).trans rfl
  have HS := slice25_any (totP ps : Nat) A2 c2 _ (idsOf ps) f t wf hrI (Nat.le_refl _) (by rw [idsOf_length]; omega)
  have hE := slE_ok HCk.out hft htt
  have hL : slL (totP ps : Nat) (idsOf ps) f t = slK f t (idsOf ps) ps.length := by unfold slL; rw [if_pos hE, idsOf_length]
  rw [hE, hL, idsOf_length] at HS
  have HS := Lib.hid HS
  have hkl := slK_len f t (idsOf ps) ps.length
  have HBd := Lib.hid (fun p hp => slK_bd (f := f) (t := t) (l := idsOf ps) ps.length (by rw [idsOf_length]; exact Nat.le_refl _) p hp)
  have HRg := Lib.hid (range_few (ps := ps) HD.out HCk.out hft htt)
  clear hf hT4 hT5 hT6 hch hch2 hTx hTx4 hown4 hownp4 hownR hown hownr hE hL
  generalize slK f t (idsOf ps) ps.length = xs at *
  go_wp2_with fail
  refine HS.out.mono ?_
  clear HS
  rintro e wg ⟨A6, c6, rfl, hown6, hgt⟩
  have hlie2 : Lie wg wg.heap.size ps := fun p hp => ((hlie p hp).up hgt (Nat.le_refl _)).more (Below.size hgt)
  replace hM := hM.of hgt
  replace hrR := (hrR.up hgt (Nat.le_refl _)).more (Below.size hgt)
  replace hrI := (hrI.up hgt (Nat.le_refl _)).more (Below.size hgt)
  replace hb4 := Grew.trans hb4 hgt
  clear hgt hlie m0 m1
  go_wp2_with fail
  refine (known25_any _).mono ?_
  rintro e wk ⟨rfl, hgt⟩
  have hlie : Lie wk wk.heap.size ps := fun p hp => ((hlie2 p hp).up hgt (Nat.le_refl _)).more (Below.size hgt)
  replace hM := hM.of hgt
  replace hrR := (hrR.up hgt (Nat.le_refl _)).more (Below.size hgt)
  replace hrI := (hrI.up hgt (Nat.le_refl _)).more (Below.size hgt)
  replace hown6 := own_below hown6 hgt
  replace hb4 := Grew.trans hb4 hgt
  have hr6 := own_row hown6
  clear hgt hlie2 hown6
  go_wp2_with fail
  go_loopw [11, 12] (fun s i wr => ∃ (k : Nat) (A : Option Addr) (c : Nat), k ≤ xs.length ∧ i = .int .i64 k ∧ s = .slice A k c ∧ wr.ownsRow wk.heap.size 53 3 (.slice A k c) k (chsC (fewC ps (xs.take k))) ∧ Below wk.heap.size wk wr) (fun _ i _ => xs.length - (intOf i).toNat)
  case atStart => exact ⟨0, none, 0, Nat.zero_le _, rfl, rfl, World.ownsRow_nil _ _ _ _, Below.refl _ _⟩
  case round =>
    obtain ⟨k, A, c, hk, rfl, rfl, hown, hb⟩ := hrel
    have hws := Below.size hb
    by_cases hlt : k < xs.length
    · obtain ⟨ad, rfl, hbl, d0, d1, d2⟩ := pcs_at (hr6.up hb (Nat.le_refl _)) hlt
      obtain ⟨i, a, c', hpe, hil, _, _⟩ := HBd.out xs[k] (List.getElem_mem hlt)
      rw [idsOf_length] at hil
      obtain ⟨adR, rfl, hblR, q0, q1, q2⟩ := chs_at (hrR.up hb (Nat.le_refl _)) (k := i) (by rw [rightC_length]; exact hil)
      have hsn := Lib.hid (few_snoc ps xs k hlt (i := i) (by rw [hpe]) hil)
      have hri : (rightC ps)[i]'(by rw [rightC_length]; exact hil) = ⟨idOf ps[i].zs, ps[i]⟩ := by simp [rightC]
      rw [hri] at q0 q1 q2
      rw [hpe] at d0
      simp only at d0 q0 q1 q2
      unfold idOf at q0 q1
      simp only at q0 q1
      have hi1 : ¬ ((i : Int) < 0) := by omega
      have hi2 : ¬ ((ps.length : Int) ≤ (i : Int)) := by omega
      clear hpe hri d1 d2
      generalize ps[i].zs = ys at *
      generalize ps[i].A = pA at *
      generalize ps[i].cap = pc at *
      have hxl : xs.length ≤ 6 := by omega
      go_wp2_with (at_builtin; refine wpList_append_row rfl (.tmp 73) (.tmp 82) rfl wk.heap.size elem_chunk (by rfl) (hown.alloc _) _ (by rfl) (by rfl) (Blk.row (Blk.new wr 53 #[.int .u64 (sumZ ys), .int .i64 ys.length, .slice pA ys.length pc])) (by simp [Value.oneCell']) (by unfold maxLen; omega) (by omega) (by simp; omega) ?_; intro A8 c8 w8 hown9 hg8 _; have hb8 : Below wk.heap.size wk w8 := Below.trans (B := wk.heap.size) (hb.alloc hws (.cells #[.int .u64 (sumZ ys), .int .i64 ys.length, .slice pA ys.length pc] 53)) ((Ch.of_own hg8).below (by simp; omega) (fun i hi => own_lt hown i hi)))
      have hown10 : w8.ownsRow wk.heap.size 53 3 (.slice A8 (k + 1) c8) (k + 1) (chsC (fewC ps (xs.take (k + 1)))) := by rw [hsn.out]; exact hown9
      clear hown9 hown hg8
      go_roundw
      case rel => exact ⟨k + 1, A8, c8, by omega, by go_num, rfl, hown10, hb8⟩
      case measure => simp [intOf]; omega
    · obtain rfl : k = xs.length := by omega
      rw [List.take_length] at hown
      obtain ⟨ho, e1, e2⟩ := HRg.out
      have hok := of_okC ho HPm.out HCaps.out
      have hlie2 : Lie wr wr.heap.size ps := fun p hp => ((hlie p hp).up hb (Nat.le_refl _)).more (Below.size hb)
      replace hM := hM.of hb
      replace hrR := (hrR.up hb (Nat.le_refl _)).more (Below.size hb)
      replace hrI := (hrI.up hb (Nat.le_refl _)).more (Below.size hb)
      replace hb4 := Grew.trans hb4 hb
      have m0 : wr.cell? ⟨gm, 0, none⟩ = some (.int .i64 (totP ps : Nat)) := (hM.cell 0).trans rfl
      have m1 : wr.cell? ⟨gm, 1, none⟩ = some (.slice A2 ps.length c2) := (hM.cell 1).trans rfl
      have hsl : (subZ f t (flat ps)).length = t - f := subZ_len (by rw [flat_len]; exact htt)
      have HSL := Lib.hid hsl
      have HR := range25_any (totP ps : Nat) A2 c2 wr.heap.size (idsOf ps) f t A c (fewC ps xs) wr hrI HWI.out (own_row hown) (of_lie ho hlie2) hok (Nat.le_refl _) (by rw [idsOf_length]; omega) (by rw [fewC_length]; omega)
      unfold RangeRes at HR
      rw [idsOf_length, fewC_length, e1, e2, hsl] at HR
      have HR := Lib.hid HR
      clear ho e1 e2 hok hlie hb hown hsl HRg
      go_wp2_with fail
      refine HR.out.mono ?_
      clear HR
      rintro e wa ⟨A9, c9, rfl, hown9, hga⟩
      have hlie3 : Lie wa wa.heap.size ps := fun p hp => ((hlie2 p hp).up hga (Nat.le_refl _)).more (Below.size hga)
      replace hM := hM.of hga
      replace hrR := (hrR.up hga (Nat.le_refl _)).more (Below.size hga)
      replace hrI := (hrI.up hga (Nat.le_refl _)).more (Below.size hga)
      replace hb4 := Grew.trans hb4 hga
      replace m0 := cell_up hga m0
      replace m1 := cell_up hga m1
      obtain ⟨we1, we2⟩ := whole_dist HD.out HCk.out
      have HA := assemble25_any (totP ps : Nat) A2 c2 wa.heap.size (idsOf ps) A3 c3 (rightC ps) wa hrI HWI.out hrR (right_lie hlie3) (right_ok HPm.out HCaps.out) (Nat.le_refl _) (by rw [idsOf_length]; omega) (by rw [rightC_length]; omega)
      unfold RangeRes at HA
      rw [idsOf_length, rightC_length, we1, we2, flat_len] at HA
      have HA := Lib.hid HA
      clear hga hlie2 hlie3 we1 we2
      go_wp2_with fail
      refine HA.out.mono ?_
      clear HA
      rintro e wb ⟨A10, c10, rfl, hown10, hga⟩
      replace hown9 := own_below hown9 hga
      replace hb4 := Grew.trans hb4 hga
      replace m0 := cell_up hga m0
      obtain ⟨hcc, _⟩ := own_cap hown10
      have hr9 := own_row hown9
      have hr10 := own_row hown10
      have hf10 : f ≤ c10 := by omega
      have hrs := hr10.cut' (lo := f) (m := t - f) (cap := c10) (fun h => .inl (by omega))
      rw [← List.map_drop, ← List.map_take, take_drop_sub] at hrs
      have HC9 := Lib.hid (fun W (h : Grew wb W) => conv_rowN (hr9.up h (Nat.le_refl _)) c9 HSL.out)
      have HCS := Lib.hid (fun W (h : Grew wb W) => conv_rowN (hrs.up h (Nat.le_refl _)) (c10 - f) HSL.out)
      have q1 : (f : Int) ≤ t := by omega
      have q2 : (t : Int) ≤ c10 := by omega
      clear hga hown9 hown10 hr9 hr10 hrs m1 hM hrR hrI
      generalize subZ f t (flat ps) = ys at *
      by_cases hca : c10 = f
      · obtain rfl : t = f := by omega
        subst hca
        simp only [Nat.sub_self, if_true] at HC9 HCS
        clear hf10 q1 q2
        have q1 : (c10 : Int) ≤ c10 := by omega
        go_upto_region 20 with (fail)
        refine wp_region_g 23 (by kernel_rfl) ?_
        refine AllC.head 0 23 (fuel := 1) (by first | exact fun h k => Grew.trans h k | exact fun h k => cls_grew h k) (grew_drew _) (by rfl) (by kernel_rfl) ?_
        simp only [List.take_succ_cons, List.take_zero, List.drop_succ_cons, List.drop_zero]
        repeat (first
          | (refine HeadC.val (by rfl) ?_
             apply Exists.intro
             refine ⟨fun w' hw' => ?_, ?_⟩
             · (have hf_0 := cell_up hw' m0; have hf_1 := HC9.out _ hw'; have hf_2 := HCS.out _ hw'; (go_simp) <;> (try go_ints) <;> with_reducible rfl)
             try simp only [Act.put, List.setIfInBounds_toArray, List.set_cons_zero, List.set_cons_succ])
          | (refine HeadC.shut (by rfl) ?_
             try simp only [Act.put, List.setIfInBounds_toArray, List.set_cons_zero, List.set_cons_succ]))
        refine HeadC.nil ?_
        refine AllC.tail 23 (by rfl) (by kernel_rfl) ?_
        intro wt hwt
        simp only [List.drop_succ_cons, List.drop_zero]
        have hgt := (grew_drew wb).trans hwt
        go_wp2_with fail
        go_ret
        exact ⟨rfl, Grew.trans hb4 hgt⟩
      · rw [if_neg hca] at HCS
        go_upto_region 20 with (fail)
        refine wp_region_g 23 (by kernel_rfl) ?_
        refine AllC.head 0 23 (fuel := 1) (by first | exact fun h k => Grew.trans h k | exact fun h k => cls_grew h k) (grew_drew _) (by rfl) (by kernel_rfl) ?_
        simp only [List.take_succ_cons, List.take_zero, List.drop_succ_cons, List.drop_zero]
        repeat (first
          | (refine HeadC.val (by rfl) ?_
             apply Exists.intro
             refine ⟨fun w' hw' => ?_, ?_⟩
             · (have hf_0 := cell_up hw' m0; have hf_1 := HC9.out _ hw'; have hf_2 := HCS.out _ hw'; (go_simp) <;> (try go_ints) <;> with_reducible rfl)
             try simp only [Act.put, List.setIfInBounds_toArray, List.set_cons_zero, List.set_cons_succ])
          | (refine HeadC.shut (by rfl) ?_
             try simp only [Act.put, List.setIfInBounds_toArray, List.set_cons_zero, List.set_cons_succ]))
        refine HeadC.nil ?_
        refine AllC.tail 23 (by rfl) (by kernel_rfl) ?_
        intro wt hwt
        simp only [List.drop_succ_cons, List.drop_zero]
        have hgt := (grew_drew wb).trans hwt
        go_wp2_with fail
        go_ret
        exact ⟨rfl, Grew.trans hb4 hgt⟩

end Go.Proofs.Ytnjhipnfhapngaa
