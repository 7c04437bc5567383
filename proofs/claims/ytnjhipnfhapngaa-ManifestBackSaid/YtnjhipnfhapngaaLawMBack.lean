/-
  stockyardlaw25.ManifestBack returns true.
-/
import Derived.Test.YtnjhipnfhapngaaKnown25
import Derived.Test.YtnjhipnfhapngaaBuild25
import Derived.Test.YtnjhipnfhapngaaBack25
namespace Go.Proofs.Ytnjhipnfhapngaa
set_option linter.unusedVariables false
set_option linter.unusedSimpArgs false
set_option linter.unnecessarySimpa false
open Go.RowKit
attribute [local go_sem ↓] Go.wp_at_zero Go.wp_at_succ


set_option maxRecDepth 4000 in
set_option maxHeartbeats 2000000 in
theorem lawMBack_any (A : Option Addr) (cap : Nat) (ls : List Int) (w : World) (hr : Row w w.heap.size A (ls.map (.int .i64))) (hz : ∀ z ∈ ls, -9223372036854775808 ≤ z ∧ z ≤ 9223372036854775807) (hm : ls.length ≤ 9223372036854775807) :
    Calls Try.prog 14 #[.slice A ls.length cap] w fun e w' => e = .returned (.bool true) ∧ Below w.heap.size w w' := by
  have hT := Tp.new (cap := cap) hr (Nat.le_refl _) hz hm
  have g0 := grew_alloc w (.cells #[.slice A ls.length cap, .int .i64 0] 26)
  have hch0 : Ch (At w.heap.size) w (w.alloc (.cells #[.slice A ls.length cap, .int .i64 0] 26)) := Ch.of_below g0
  clear hz g0 hr
  go_enter Try.func14, Try.ntmps14
  go_wp2_with fail
  generalize w.alloc (.cells #[.slice A ls.length cap, .int .i64 0] 26) = w1 at *
  refine (cut25_any _ _ _ _ hT (by omega)).mono ?_
  rintro e w2 ⟨c, rfl, hsm, hT2, hch⟩
  have HS := Lib.hid hsm
  have OK := Lib.hid hsm.ok
  have hch2 := hch0.trans hch
  clear hT hch hch0 hsm
  unfold cutV
  have hC := CutAt.new w2 c
  have gC := grew_alloc w2 (.cells #[.int .i64 c.mn, .int .i64 c.mx, .int .i64 c.wn, .int .u64 c.mask] 83)
  have hT3 := hT2.of gC
  have hch3 := hch2.next gC
  have htl := hT2.lt
  clear gC hT2 hch2
  go_wp2_with fail
  generalize w2.alloc (.cells #[.int .i64 c.mn, .int .i64 c.mx, .int .i64 c.wn, .int .u64 c.mask] 83) = w3 at *
  generalize w2.heap.size = gc at *
  clear w2
  have hb3 : Below w.heap.size w w3 := hch3.below (Nat.le_refl _) (fun i hi => by rw [hi]; exact Nat.le_refl _)
  have hne : Hid (¬ At w.heap.size gc) := Lib.hid (by show ¬ gc = _; omega)
  clear hch3
  have htl1 := hT3.lt
  refine (tapeNext_any _ _ _ 90 _ hT3 (by omega) (by omega)).mono ?_
  rintro e w4 ⟨n1, rfl, hx, hT4, hch⟩
  have hn1 : n1 < 90 := by omega
  go_wp2_with fail
  refine (tapeNext_any _ _ _ 4 _ hT4 (by omega) (by omega)).mono ?_
  rintro e w5 ⟨k1, rfl, hx2, hT5, hch2⟩
  have hk1 : k1 < 4 := by omega
  have HB := Lib.hid (tapeBytes_any _ _ _ n1 (1 + k1) _ hT5 (by omega) (by omega) (by omega))
  rw [show ((1 + k1 : Nat) : Int) = 1 + (k1 : Int) by omega] at HB
  go_wp2_with fail
  refine HB.out.mono ?_
  clear HB
  rintro e w6 ⟨A1, c1, zs1, rfl, hlen1, hz, hown1, hT6, hch3⟩
  subst hlen1
  have Hz1 := Lib.hid hz
  have hch4 := (hch.trans hch2).trans hch3
  have hbs1 : w3.heap.size ≤ w5.heap.size := (hch.trans hch2).size
  replace hC := hC.ch hch4 hne.out
  replace hb3 : Below w.heap.size w w6 := Below.trans (B := w.heap.size) hb3 (hch4.below hb3.size (fun i hi => by rw [hi]; exact Nat.le_refl _))
  replace hT3 := hT6
  clear hch hch2 hch3 hch4 hz hT4 hT5 hT6 hx hx2
  have hcap1 := (own_cap hown1).1
  have hr1 := own_row hown1
  clear hT3 hne HS
  obtain ⟨d0, d1, d2, d3, d4⟩ := hC.cells
  go_wp2_with fail
  refine (build25c_any c OK.out A1 c1 _ zs1 w6 hr1 (Nat.le_refl _) Hz1.out (by omega) hcap1).mono ?_
  rintro e w7 ⟨A7, c7, L7, l7, ps, rfl, hcu, hown7, hl7, hlie7, hb, hcaps⟩
  have hlen := bld_len OK.out hcu
  have HFl := Lib.hid (bld_flat OK.out hcu)
  have hpm : ∀ p ∈ ps, Byt p.zs ∧ p.zs.length ≤ 1048576 := fun p hp => by
    have h := bld_mem HFl.out hp
    exact ⟨fun z hz => Hz1.out z (h.1 z hz), by omega⟩
  have HPm := Lib.hid hpm
  have HCaps := Lib.hid hcaps
  have HCk := Lib.hid (show chkM zs1.length (idsOf ps) = 0 from bld_chk OK.out hcu (by omega))
  have hg7 := grew_alloc w7 (.cells #[.int .i64 zs1.length, .slice A7 ps.length c7] 31)
  have hM7 := Blk.new w7 31 #[.int .i64 zs1.length, .slice A7 ps.length c7]
  have hb7 := Grew.trans hb hg7
  have hown8 := own_below hown7 hg7
  have hl8 := (hl7.up hg7 (Nat.le_refl _)).more hg7.size
  have hlie8 : Lie (w7.alloc (.cells #[.int .i64 zs1.length, .slice A7 ps.length c7] 31)) (w7.alloc (.cells #[.int .i64 zs1.length, .slice A7 ps.length c7] 31)).heap.size ps := fun p hp => ((hlie7 p hp).up hg7 (Nat.le_refl _)).more hg7.size
  replace hr1 := (hr1.up hb7 (Nat.le_refl _)).more (Below.size hb7)
  replace hb3 := Grew.trans hb3 hb7
  clear hb hg7 hb7 hown7 hl7 hlie7 d0 d1 d2 d3 d4 hown1 hcu hpm hcaps hC
  go_wp2_with fail
  generalize w7.alloc (.cells #[.int .i64 zs1.length, .slice A7 ps.length c7] 31) = w8 at *
  generalize w7.heap.size = g7 at *
  clear w7
  refine (known25_any _).mono ?_
  rintro e wt ⟨rfl, hgt⟩
  have hlie : Lie wt wt.heap.size ps := fun p hp => ((hlie8 p hp).up hgt (Nat.le_refl _)).more (Below.size hgt)
  replace hM7 := hM7.of hgt
  replace hr1 := (hr1.up hgt (Nat.le_refl _)).more (Below.size hgt)
  replace hl8 := (hl8.up hgt (Nat.le_refl _)).more (Below.size hgt)
  replace hown8 := own_below hown8 hgt
  replace hb3 := Grew.trans hb3 hgt
  have hlb : ps.length ≤ 1048576 := by omega
  have m0 : wt.cell? ⟨g7, 0, none⟩ = some (.int .i64 zs1.length) := (hM7.cell 0).trans rfl
  have m1 : wt.cell? ⟨g7, 1, none⟩ = some (.slice A7 ps.length c7) := (hM7.cell 1).trans rfl
  clear hgt hlie8
  have hl := hl8
  clear hl8
  go_wp2_with fail
  refine (distinct_any L7 l7 _ ps _ hl hlie (Nat.le_refl _) (fun p hp => (HPm.out p hp).1) (fun p hp => (HPm.out p hp).2) hlb).mono ?_
  rintro e wd ⟨b, rfl, hd, hgt⟩
  have hlie2 : Lie wd wd.heap.size ps := fun p hp => ((hlie p hp).up hgt (Nat.le_refl _)).more (Below.size hgt)
  replace hM7 := hM7.of hgt
  replace hr1 := (hr1.up hgt (Nat.le_refl _)).more (Below.size hgt)
  replace hl := (hl.up hgt (Nat.le_refl _)).more (Below.size hgt)
  replace hown8 := own_below hown8 hgt
  replace hb3 := Grew.trans hb3 hgt
  replace m0 := cell_up hgt m0
  replace m1 := cell_up hgt m1
  clear hgt hlie
  have hlie := hlie2
  clear hlie2
  by_cases hbt : b = true
  rotate_left
  · obtain rfl : b = false := by simpa using hbt
    clear hbt
    go_wp2_with fail
    go_ret
    exact ⟨rfl, hb3⟩
  subst hbt
  have HD := Lib.hid (hd rfl)
  clear hd
  go_wp2_with fail
  go_loopw [9, 10] (fun s i wr => ∃ (k : Nat) (A : Option Addr) (c : Nat), k ≤ ps.length ∧ i = .int .i64 k ∧ s = .slice A k c ∧ wr.ownsRow wd.heap.size 53 3 (.slice A k c) k (chsC (rightC (ps.take k))) ∧ Below wd.heap.size wd wr) (fun _ i _ => ps.length - (intOf i).toNat)
  case atStart => exact ⟨0, none, 0, Nat.zero_le _, rfl, rfl, World.ownsRow_nil _ _ _ _, Below.refl _ _⟩
  case round =>
    obtain ⟨k, A, c, hk, rfl, rfl, hown, hb⟩ := hrel
    have hws := Below.size hb
    by_cases hlt : k < ps.length
    · obtain ⟨ad, hadd, hbl, hc⟩ := part_at (hl.up hb (Nat.le_refl _)) hlt
      subst hadd
      have hrk := (hlie _ (List.getElem_mem hlt)).up hb (Nat.le_refl _)
      obtain ⟨hzb, hzl⟩ := HPm.out _ (List.getElem_mem hlt)
      have hsn := Lib.hid (right_snoc ps k hlt)
      have hnq : ¬ (fun i => (Value.slice A k c).ownBlock = some i) (ad.add k).block := fun h => by have := own_lt hown _ h; rw [add_block] at this; omega
      generalize ps[k].zs = ys at *
      generalize ps[k].A = pA at *
      generalize ps[k].cap = pc at *
      go_wp2_with fail
      refine wp_region_cls (Ch (fun i => (Value.slice A k c).ownBlock = some i) wr) 13 (by kernel_rfl) ?_
      have hc0 := (Ch.refl (fun i => (Value.slice A k c).ownBlock = some i) wr).drew
      refine AllC.head 0 11 (fuel := 3) (by first | exact fun h k => Grew.trans h k | exact fun h k => cls_grew h k) (hc0) (by rfl) (by kernel_rfl) ?_
      simp only [List.take_succ_cons, List.take_zero, List.drop_succ_cons, List.drop_zero]
      repeat (first
        | (refine HeadC.val (by rfl) ?_
           apply Exists.intro
           refine ⟨fun w' hw' => ?_, ?_⟩
           · (have hf_0 := hw'.cell hc hnq; (go_simp) <;> (try go_ints) <;> with_reducible rfl)
           try simp only [Act.put, List.setIfInBounds_toArray, List.set_cons_zero, List.set_cons_succ])
        | (refine HeadC.call (by rfl) ?_
           apply Exists.intro; apply Exists.intro
           refine ⟨fun w' hw' => ?_, ?_⟩
           · (have hf_0 := hw'.cell hc hnq; (go_simp) <;> first | (refine ⟨?_, ?_⟩ <;> with_reducible rfl) | with_reducible rfl)
           apply Exists.intro
           refine ⟨fun w' hw' => ?_, ?_⟩
           · (first | exact of_any pA pc wd.heap.size ys w' (hrk.ch hw' hws (fun i hi => own_lt hown i hi)) (Nat.le_trans hws hw'.size) hzb (by omega))
           try simp only [Act.put, List.setIfInBounds_toArray, List.set_cons_zero, List.set_cons_succ])
        | (refine HeadC.shut (by rfl) ?_
           try simp only [Act.put, List.setIfInBounds_toArray, List.set_cons_zero, List.set_cons_succ]))
      refine HeadC.nil ?_
      refine AllC.one 11 (by kernel_rfl) rfl ?_
      intro wg hg K hK
      go_simp
      have hg0 := (grew_drew wr).trans hg
      have hga := grew_alloc wg (.cells #[.int .u64 (sumZ ys), .int .i64 ys.length, .slice pA ys.length pc] 53)
      have hc7 : Ch (fun i => (Value.slice A k c).ownBlock = some i) wr (wg.alloc (.cells #[.int .u64 (sumZ ys), .int .i64 ys.length, .slice pA ys.length pc] 53)) := (Ch.of_below hg0).alloc _
      have hown7 := own_below hown (hg0.trans hga)
      have hrow7 := Blk.row (Blk.new wg 53 #[.int .u64 (sumZ ys), .int .i64 ys.length, .slice pA ys.length pc])
      refine hK.out _ _ hc7 ?_
      clear hK K hg hc0 hga
      try simp only [Act.put, List.setIfInBounds_toArray, List.set_cons_zero, List.set_cons_succ]
      have hsz7 : wd.heap.size ≤ (wg.alloc (.cells #[.int .u64 (sumZ ys), .int .i64 ys.length, .slice pA ys.length pc] 53)).heap.size := Nat.le_trans hws hc7.size
      generalize wg.alloc (.cells #[.int .u64 (sumZ ys), .int .i64 ys.length, .slice pA ys.length pc] 53) = w7 at *
      generalize wg.heap.size = g7 at *
      clear hg0 wg
      refine AllC.one 12 (by kernel_rfl) rfl ?_
      intro wg hg K hK
      have hown8 := own_below hown7 hg
      have hrow8 := hrow7.up hg (Nat.le_refl _)
      have hsz8 := Nat.le_trans hsz7 hg.size
      refine step_append_row rfl (.tmp 57) (.tmp 68) rfl wd.heap.size elem_chunk (by rfl) hown8 _ (by rfl) (by rfl) hrow8 (by simp [Value.oneCell']) (by unfold maxLen; omega) (by omega) (by omega) ?_
      intro A8 c8 w8 hown9 hg8 hwh
      have hc8 : Ch (fun i => (Value.slice A k c).ownBlock = some i) wr w8 := (hc7.next hg).trans (Ch.of_own hg8)
      refine hK.out _ _ hc8 ?_
      have hb8 : Below wd.heap.size wd w8 := Below.trans (B := wd.heap.size) hb (hc8.below hws (fun i hi => own_lt hown i hi))
      clear hK K hg hg8 hwh hown8 hrow8 hown7 hrow7 hc7 hc8 hsz8 hsz7
      try simp only [Act.put, List.setIfInBounds_toArray, List.set_cons_zero, List.set_cons_succ]
      refine AllC.tail 13 (by rfl) (by kernel_rfl) ?_
      intro wt hwt
      simp only [List.drop_succ_cons, List.drop_zero]
      have hown10 : wt.ownsRow wd.heap.size 53 3 (.slice A8 (k + 1) c8) (k + 1) (chsC (rightC (ps.take (k + 1)))) := by rw [hsn.out]; exact own_below hown9 hwt
      have hb10 : Below wd.heap.size wd wt := Below.trans (B := wd.heap.size) hb8 (hwt.mono (Below.size hb8))
      clear hown9 hb8 hwt hrk hc hown hnq
      go_wp2_with fail
      go_roundw
      case rel => exact ⟨k + 1, A8, c8, by omega, by go_num, rfl, hown10, hb10⟩
      case measure => simp [intOf]; omega
    · obtain rfl : k = ps.length := by omega
      rw [List.take_length] at hown
      have hok := right_ok HPm.out HCaps.out
      have hrI := own_row (own_below hown8 hb)
      have hlC : LieC wr wr.heap.size (rightC ps) := right_lie (fun p hp => ((hlie p hp).up hb (Nat.le_refl _)).more (Below.size hb))
      have hwI : ∀ x ∈ idsOf ps, WfI x := fun x hx => by
        obtain ⟨p, hp, rfl⟩ := List.mem_map.1 hx
        exact idOf_wf (by have := (HPm.out p hp).2; omega)
      have HWI := Lib.hid hwI
      have HA := assemble25_any (zs1.length : Nat) A7 c7 wr.heap.size (idsOf ps) A c (rightC ps) wr hrI hwI (own_row hown) hlC hok (Nat.le_refl _) (by rw [idsOf_length]; omega) (by rw [rightC_length]; exact hlb)
      unfold RangeRes at HA
      obtain ⟨we1, we2⟩ := whole_dist HD.out HCk.out
      rw [idsOf_length, rightC_length, we1, we2, HFl.out] at HA
      have HA := Lib.hid HA
      have hcap7 := own_cap hown8
      replace hM7 := hM7.of hb
      replace hr1 := (hr1.up hb (Nat.le_refl _)).more (Below.size hb)
      replace hown8 := own_below hown8 hb
      replace hb3 := Grew.trans hb3 hb
      replace m0 := cell_up hb m0
      replace m1 := cell_up hb m1
      clear hok hlC hwI we1 we2 hb hown hrI hl hlie
      go_wp2_with fail
      refine HA.out.mono ?_
      clear HA
      rintro e wa ⟨A9, c9, rfl, hown9, hga⟩
      replace hM7 := hM7.of hga
      replace hr1 := (hr1.up hga (Nat.le_refl _)).more (Below.size hga)
      replace hown8 := own_below hown8 hga
      replace hb3 := Grew.trans hb3 hga
      replace m0 := cell_up hga m0
      replace m1 := cell_up hga m1
      clear hga
      have HW := whole25_any (zs1.length : Nat) A7 c7 wa.heap.size (idsOf ps) wa (own_row hown8) HWI.out (Nat.le_refl _) (by rw [idsOf_length]; omega)
      have hwh : whE (zs1.length : Nat) (idsOf ps) = idOf zs1 := by
        unfold whE
        rw [if_pos HCk.out, whS_of (by rw [← flat_len, HFl.out]; omega), HFl.out]
      rw [idsOf_length, hwh, HCk.out] at HW
      unfold idOf at HW
      simp only at HW
      have HW := Lib.hid HW
      clear hwh
      go_wp2_with fail
      refine HW.out.mono ?_
      clear HW
      rintro e wb ⟨rfl, hgb⟩
      have hI := Blk.new wb 51 #[.int .u64 (sumZ zs1), .int .i64 zs1.length]
      have hgI := grew_alloc wb (.cells #[.int .u64 (sumZ zs1), .int .i64 zs1.length] 51)
      replace hgb := Grew.trans hgb hgI
      replace hr1 := (hr1.up hgb (Nat.le_refl _)).more (Below.size hgb)
      replace hown9 := own_below hown9 hgb
      replace hb3 := Grew.trans hb3 hgb
      clear hgI hgb m0 m1 hM7 hown8
      have hr9 := own_row hown9
      go_wp2_with fail
      generalize wb.alloc (.cells #[.int .u64 (sumZ zs1), .int .i64 zs1.length] 51) = wi at *
      generalize wb.heap.size = gi at *
      clear wb
      have i0 := (hI.cell 0).trans (show _ = some (.int .u64 (sumZ zs1)) from rfl)
      have i1 := (hI.cell 1).trans (show _ = some (.int .i64 zs1.length) from rfl)
      refine wp_region_g 19 (by kernel_rfl) ?_
      refine AllC.head 0 19 (fuel := 1) (by first | exact fun h k => Grew.trans h k | exact fun h k => cls_grew h k) (grew_drew _) (by rfl) (by kernel_rfl) ?_
      simp only [List.take_succ_cons, List.take_zero, List.drop_succ_cons, List.drop_zero]
      repeat (first
        | (refine HeadC.val (by rfl) ?_
           apply Exists.intro
           refine ⟨fun w' hw' => ?_, ?_⟩
           · (have hf_0 := cell_up hw' i0; have hf_1 := cell_up hw' i1; have hf_2 := conv_row' (hr9.up hw' (Nat.le_refl _)) c9; have hf_3 := conv_row' (hr1.up hw' (Nat.le_refl _)) c1; (go_simp) <;> (try go_ints) <;> with_reducible rfl)
           try simp only [Act.put, List.setIfInBounds_toArray, List.set_cons_zero, List.set_cons_succ])
        | (refine HeadC.call (by rfl) ?_
           apply Exists.intro; apply Exists.intro
           refine ⟨fun w' hw' => ?_, ?_⟩
           · (have hf_0 := cell_up hw' i0; have hf_1 := cell_up hw' i1; have hf_2 := conv_row' (hr9.up hw' (Nat.le_refl _)) c9; have hf_3 := conv_row' (hr1.up hw' (Nat.le_refl _)) c1; (go_simp) <;> first | (refine ⟨?_, ?_⟩ <;> with_reducible rfl) | with_reducible rfl)
           apply Exists.intro
           refine ⟨fun w' hw' => ?_, ?_⟩
           · (first | exact of_any A1 c1 wi.heap.size zs1 w' (hr1.up hw' (Nat.le_refl _)) hw'.size Hz1.out (by omega))
           try simp only [Act.put, List.setIfInBounds_toArray, List.set_cons_zero, List.set_cons_succ])
        | (refine HeadC.shut (by rfl) ?_
           try simp only [Act.put, List.setIfInBounds_toArray, List.set_cons_zero, List.set_cons_succ]))
      refine HeadC.nil ?_
      refine AllC.tail 19 (by rfl) (by kernel_rfl) ?_
      intro wt hwt
      simp only [List.drop_succ_cons, List.drop_zero]
      have hgt := (grew_drew wi).trans hwt
      go_wp2_with fail
      go_ret
      exact ⟨rfl, Grew.trans hb3 hgt⟩

end Go.Proofs.Ytnjhipnfhapngaa
