/-
  stockyardlaw25.ManifestBuilds returns true.
-/
import Derived.Test.YtnjhipnfhapngaaPre25
import Derived.Test.YtnjhipnfhapngaaBuild25
namespace Go.Proofs.Ytnjhipnfhapngaa
set_option linter.unusedVariables false
set_option linter.unusedSimpArgs false
set_option linter.unnecessarySimpa false
open Go.RowKit
attribute [local go_sem ↓] Go.wp_at_zero Go.wp_at_succ


set_option maxRecDepth 4000 in
set_option maxHeartbeats 2000000 in
theorem lawMBuilds_any (A : Option Addr) (cap : Nat) (ls : List Int) (w : World) (hr : Row w w.heap.size A (ls.map (.int .i64))) (hz : ∀ z ∈ ls, -9223372036854775808 ≤ z ∧ z ≤ 9223372036854775807) (hm : ls.length ≤ 9223372036854775807) :
    Calls Try.prog 12 #[.slice A ls.length cap] w fun e w' => e = .returned (.bool true) ∧ Below w.heap.size w w' := by
  have hT := Tp.new (cap := cap) hr (Nat.le_refl _) hz hm
  have g0 := grew_alloc w (.cells #[.slice A ls.length cap, .int .i64 0] 26)
  have hch0 : Ch (At w.heap.size) w (w.alloc (.cells #[.slice A ls.length cap, .int .i64 0] 26)) := Ch.of_below g0
  clear hz g0 hr
  go_enter Try.func12, Try.ntmps12
  go_wp2_with fail
  generalize w.alloc (.cells #[.slice A ls.length cap, .int .i64 0] 26) = w1 at *
  refine (cut25_any _ _ _ _ hT (by omega)).mono ?_
  rintro e w2 ⟨c, rfl, hsm, hT2, hch⟩
  have HS := Lib.hid hsm
  have OK := Lib.hid hsm.ok
  have hch2 := hch0.trans hch
  clear hT hch hch0 hsm
  unfold cutV
  have hC := CutAt.new w2 c
  have gC := grew_alloc w2 (.cells #[.int .i64 c.mn, .int .i64 c.mx, .int .i64 c.wn, .int .u64 c.mask] 83)
  have hT3 := hT2.of gC
  have hch3 := hch2.next gC
  have htl := hT2.lt
  clear gC hT2 hch2
  go_wp2_with fail
  generalize w2.alloc (.cells #[.int .i64 c.mn, .int .i64 c.mx, .int .i64 c.wn, .int .u64 c.mask] 83) = w3 at *
  generalize w2.heap.size = gc at *
  clear w2
  have hb3 : Below w.heap.size w w3 := hch3.below (Nat.le_refl _) (fun i hi => by rw [hi]; exact Nat.le_refl _)
  have hne : Hid (¬ At w.heap.size gc) := Lib.hid (by show ¬ gc = _; omega)
  clear hch3
  have htl1 := hT3.lt
  refine (tapeNext_any _ _ _ 90 _ hT3 (by omega) (by omega)).mono ?_
  rintro e w4 ⟨n1, rfl, hx, hT4, hch⟩
  have hn1 : n1 < 90 := by omega
  go_wp2_with fail
  refine (tapeNext_any _ _ _ 4 _ hT4 (by omega) (by omega)).mono ?_
  rintro e w5 ⟨k1, rfl, hx2, hT5, hch2⟩
  have hk1 : k1 < 4 := by omega
  have HB := Lib.hid (tapeBytes_any _ _ _ n1 (1 + k1) _ hT5 (by omega) (by omega) (by omega))
  rw [show ((1 + k1 : Nat) : Int) = 1 + (k1 : Int) by omega] at HB
  go_wp2_with fail
  refine HB.out.mono ?_
  clear HB
  rintro e w6 ⟨A1, c1, zs1, rfl, hlen1, hz, hown1, hT6, hch3⟩
  subst hlen1
  have Hz1 := Lib.hid hz
  have hch4 := (hch.trans hch2).trans hch3
  have hbs1 : w3.heap.size ≤ w5.heap.size := (hch.trans hch2).size
  replace hC := hC.ch hch4 hne.out
  replace hb3 : Below w.heap.size w w6 := Below.trans (B := w.heap.size) hb3 (hch4.below hb3.size (fun i hi => by rw [hi]; exact Nat.le_refl _))
  replace hT3 := hT6
  clear hch hch2 hch3 hch4 hz hT4 hT5 hT6 hx hx2
  have hcap1 := (own_cap hown1).1
  have hr1 := own_row hown1
  clear hT3 hne HS
  obtain ⟨d0, d1, d2, d3, d4⟩ := hC.cells
  go_wp2_with fail
  refine (build25_any c OK.out A1 c1 _ zs1 w6 hr1 (Nat.le_refl _) Hz1.out (by omega) hcap1).mono ?_
  rintro e w7 ⟨A7, c7, L7, l7, ps, rfl, hcu, hown7, hl7, hlie7, hb⟩
  have hlen := bld_len OK.out hcu
  have hg7 := grew_alloc w7 (.cells #[.int .i64 zs1.length, .slice A7 ps.length c7] 31)
  have hM7 := Blk.new w7 31 #[.int .i64 zs1.length, .slice A7 ps.length c7]
  have hb7 := Grew.trans hb hg7
  have hown8 := own_below hown7 hg7
  have hl8 := (hl7.up hg7 (Nat.le_refl _)).more hg7.size
  have hlie8 : Lie (w7.alloc (.cells #[.int .i64 zs1.length, .slice A7 ps.length c7] 31)) (w7.alloc (.cells #[.int .i64 zs1.length, .slice A7 ps.length c7] 31)).heap.size ps := fun p hp => ((hlie7 p hp).up hg7 (Nat.le_refl _)).more hg7.size
  replace hC := hC.of hb7
  replace hr1 := (hr1.up hb7 (Nat.le_refl _)).more (Below.size hb7)
  replace hb3 := Grew.trans hb3 hb7
  clear hb hg7 hb7 hown7 hl7 hlie7 d0 d1 d2 d3 d4 hown1
  obtain ⟨d0, d1, d2, d3, d4⟩ := hC.cells
  go_wp2_with fail
  generalize w7.alloc (.cells #[.int .i64 zs1.length, .slice A7 ps.length c7] 31) = w8 at *
  generalize w7.heap.size = g7 at *
  clear w7
  refine (refBuild25_any c OK.out A1 c1 _ zs1 w8 hr1 (Nat.le_refl _) Hz1.out (by omega) hcap1).mono ?_
  rintro e w9 ⟨A9, c9, L9, l9, qs, rfl, hcu9, hown9, hl9, hlie9, hb⟩
  have HE := Lib.hid (hcu.trans hcu9.symm)
  have HID := Lib.hid (show idsOf ps = idsOf qs by rw [← idsL_of, ← idsL_of, HE.out])
  have hlq : qs.length = ps.length := by have := congrArg List.length HE.out; rw [List.length_map, List.length_map] at this; exact this.symm
  have HLQ := Lib.hid hlq
  have hg9 := grew_alloc w9 (.cells #[.int .i64 zs1.length, .slice A9 qs.length c9] 31)
  have hM9 := Blk.new w9 31 #[.int .i64 zs1.length, .slice A9 qs.length c9]
  have hb9 := Grew.trans hb hg9
  have hown10 := own_below hown9 hg9
  have hl10 := (hl9.up hg9 (Nat.le_refl _)).more hg9.size
  have hlie10 : Lie (w9.alloc (.cells #[.int .i64 zs1.length, .slice A9 qs.length c9] 31)) (w9.alloc (.cells #[.int .i64 zs1.length, .slice A9 qs.length c9] 31)).heap.size qs := fun p hp => ((hlie9 p hp).up hg9 (Nat.le_refl _)).more hg9.size
  have hlie8' : Lie (w9.alloc (.cells #[.int .i64 zs1.length, .slice A9 qs.length c9] 31)) (w9.alloc (.cells #[.int .i64 zs1.length, .slice A9 qs.length c9] 31)).heap.size ps := fun p hp => ((hlie8 p hp).up hb9 (Nat.le_refl _)).more (Below.size hb9)
  replace hM7 := hM7.of hb9
  replace hl8 := (hl8.up hb9 (Nat.le_refl _)).more (Below.size hb9)
  replace hown8 := own_below hown8 hb9
  replace hb3 := Grew.trans hb3 hb9
  clear hb hg9 hb9 hown9 hl9 hlie9 hlie8 d0 d1 d2 d3 d4 hcu hcu9 hr1 hC hlq
  go_wp2_with fail
  generalize w9.alloc (.cells #[.int .i64 zs1.length, .slice A9 qs.length c9] 31) = w10 at *
  generalize w9.heap.size = g9 at *
  clear w9
  refine (known25_any _).mono ?_
  rintro e w11 ⟨rfl, hb⟩
  have hlp : Lie w11 w11.heap.size ps := fun p hp => ((hlie8' p hp).up hb (Nat.le_refl _)).more (Below.size hb)
  have hlq : Lie w11 w11.heap.size qs := fun p hp => ((hlie10 p hp).up hb (Nat.le_refl _)).more (Below.size hb)
  replace hM7 := hM7.of hb
  replace hM9 := hM9.of hb
  replace hl8 := (hl8.up hb (Nat.le_refl _)).more (Below.size hb)
  replace hl10 := (hl10.up hb (Nat.le_refl _)).more (Below.size hb)
  replace hown8 := own_below hown8 hb
  replace hown10 := own_below hown10 hb
  replace hb3 := Grew.trans hb3 hb
  clear hb hlie8' hlie10
  have a0 : w11.cell? ⟨g7, 0, none⟩ = some (.int .i64 zs1.length) := (hM7.cell 0).trans rfl
  have a1 : w11.cell? ⟨g7, 1, none⟩ = some (.slice A7 ps.length c7) := (hM7.cell 1).trans rfl
  have b0 : w11.cell? ⟨g9, 0, none⟩ = some (.int .i64 zs1.length) := (hM9.cell 0).trans rfl
  have b1 : w11.cell? ⟨g9, 1, none⟩ = some (.slice A9 qs.length c9) := (hM9.cell 1).trans rfl
  have HSm := same25_yes zs1.length A7 A9 c7 c9 _ (idsOf ps) w11 (own_row hown8) (by rw [HID.out]; exact own_row hown10) (Nat.le_refl _) (by rw [idsOf_length]; omega)
  rw [idsOf_length] at HSm
  have HSM := Lib.hid HSm
  clear HSm
  have HTx := Lib.hid (fun W (h : Grew w11 W) => sameTexts_yes L7 L9 l7 l9 W.heap.size ps qs W ((hl8.up h (Nat.le_refl _)).more h.size) ((hl10.up h (Nat.le_refl _)).more h.size) (fun p hp => ((hlp p hp).up h (Nat.le_refl _)).more h.size) (fun p hp => ((hlq p hp).up h (Nat.le_refl _)).more h.size) (Nat.le_refl _) (by omega) HE.out)
  go_wp2_with fail
  rw [HLQ.out]
  refine HSM.out.mono ?_
  rintro e w12 ⟨rfl, hg12⟩
  have HT := Lib.hid (HTx.out _ hg12)
  rw [HLQ.out] at HT
  go_wp2_with fail
  refine HT.out.mono ?_
  rintro e w13 ⟨rfl, hb⟩
  go_wp2_with fail
  go_ret
  exact ⟨rfl, Grew.trans hb3 (Grew.trans hg12 hb)⟩

end Go.Proofs.Ytnjhipnfhapngaa
