/-
  stockyardlaw24.ChunkerStream returns true.
-/
import Derived.Test.YtnbbbmmpkjiejaaCutPre
import Derived.Test.YtnbbbmmpkjiejaaStreamI
namespace Go.Proofs.Ytnbbbmmpkjiejaa
set_option linter.unusedVariables false
set_option linter.unusedSimpArgs false
set_option linter.unnecessarySimpa false
open Go.RowKit
attribute [local go_sem ↓] Go.wp_at_zero Go.wp_at_succ

set_option maxHeartbeats 1000000 in
theorem lawCStream_any (A : Option Addr) (cap : Nat) (ls : List Int) (w : World) (hr : Row w w.heap.size A (ls.map (.int .i64))) (hz : ∀ z ∈ ls, -9223372036854775808 ≤ z ∧ z ≤ 9223372036854775807) (hm : ls.length ≤ 9223372036854775807) :
    Calls Try.prog 12 #[.slice A ls.length cap] w fun e w' => e = .returned (.bool true) ∧ Below w.heap.size w w' := by
  have hT := Tp.new (cap := cap) hr (Nat.le_refl _) hz hm
  have g0 := grew_alloc w (.cells #[.slice A ls.length cap, .int .i64 0] 25)
  have hch0 : Ch (At w.heap.size) w (w.alloc (.cells #[.slice A ls.length cap, .int .i64 0] 25)) := Ch.of_below g0
  clear hz g0 hr
  go_enter Try.func12, Try.ntmps12
  go_wp2_with fail
  generalize w.alloc (.cells #[.slice A ls.length cap, .int .i64 0] 25) = w1 at *
  refine (made24_any _ _ _ _ hT (by omega)).mono ?_
  rintro e w2 ⟨c, rfl, hsm, hT2, hch⟩
  have HS := Lib.hid hsm
  have hch2 := hch0.trans hch
  clear hT hch hch0 hsm
  unfold cutV
  have hC := CutAt.new w2 c
  have gC := grew_alloc w2 (.cells #[.int .i64 c.mn, .int .i64 c.mx, .int .i64 c.wn, .int .u64 c.mask] 28)
  have hT3 := hT2.of gC
  have hch3 := hch2.next gC
  have htl := hT2.lt
  clear gC hT2 hch2
  go_wp2_with fail
  generalize w2.alloc (.cells #[.int .i64 c.mn, .int .i64 c.mx, .int .i64 c.wn, .int .u64 c.mask] 28) = w3 at *
  generalize w2.heap.size = gc at *
  clear w2
  have hb3 : Below w.heap.size w w3 := hch3.below (Nat.le_refl _) (fun i hi => by rw [hi]; exact Nat.le_refl _)
  have hne : Hid (¬ At w.heap.size gc) := Lib.hid (by show ¬ gc = _; omega)
  clear hch3
  have OK := Lib.hid HS.out.ok
  have hlo := hT3.lt
  obtain ⟨d0, d1, d2, d3, d4⟩ := hC.cells
  have hgc : w.heap.size ≠ gc := fun e => hne.out e.symm
  replace hb3 : Grew w w3 := hb3
  clear HS hne
  go_wp2_with fail
  refine (newStream_ok c OK.out w3).mono ?_
  rintro e w4 ⟨t, s, g, rfl, hStm, ht, hs, hg, hb⟩
  clear d0 d1 d2 d3
  replace hC := hC.of hb
  replace hT3 := hT3.of hb
  replace hb3 := Grew.trans hb3 hb
  go_wp2_with fail
  refine (known24_any _).mono ?_
  rintro e w5 ⟨rfl, hb5⟩
  have hI0 : SI w gc t s g w3.heap.size c (0 + 4) (.slice none 0 0) [] [] none w5 := SI.grew (wr := w4) ⟨hT3, hC, hStm, .inl rfl, (fun ad e => by cases e), (fun z hz => by simp at hz), hb3, ⟨hlo, ht, hs, hg, d4, hgc⟩⟩ hb5
  clear hb hb5 hC hT3 hb3 hStm ht hs hg hlo d4 hgc
  generalize w3.heap.size = base at *
  clear w3 w4
  go_wp2_with fail
  refine (tapeNext_any _ _ _ 9 _ hI0.tape (by omega) (by omega)).mono ?_
  rintro e w6 ⟨x, rfl, hx, hT, hch⟩
  have hI := hI0.next hT hch
  have y : x < 9 := by omega
  clear hI0 hT hch hx w5
  go_wp2_with fail
  go_loopw [7, 8] (fun v i wr => ∃ (k : Nat) (M : Nat) (H : Value) (T r : List Int) (Ar : Option Addr) (cr : Nat), i = .int .i64 k ∧ k ≤ 10 ∧ M + 40 * k ≤ 500 ∧ v = .slice Ar r.length cr ∧ SI w gc t s g base c M H T r Ar wr) (fun _ i _ => (intOf i).toNat)
  case atStart => exact ⟨2 + x, 5, .slice none 0 0, [], [], none, 0, by go_num, by omega, by omega, rfl, hI.more (by omega)⟩
  case round =>
    clear hI
    obtain ⟨k, M, H, T, r, Ar, cr, rfl, hk, hM, rfl, hI⟩ := hrel
    by_cases hk0 : 0 < k
    · obtain ⟨k', rfl⟩ : ∃ k', k = k' + 1 := ⟨k - 1, by omega⟩
      have hk1 : (0 : Int) < ((k' + 1 : Nat) : Int) := by omega
      have hrl := hI.len OK.out
      have hbw := fun ad e => Nat.le_trans (hI.stb ad e).1 (Nat.le_of_lt (hI.stb ad e).2)
      go_wp2_with fail
      refine (tapeNext_any _ _ _ 6 _ hI.tape (by omega) (by omega)).mono ?_
      rintro e w7 ⟨x1, rfl, hx, hT, hch⟩
      replace hI := hI.next hT hch
      clear hT hch hx
      by_cases h1 : x1 = 0
      · have h1' : ((x1 : Int) == 0) = true := by rw [beq_iff_eq]; omega
        clear h1
        go_wp2_with fail
        have hrr := hI.row
        refine wp_region_cls (Ch (StB t s g H) w7) 9 (by kernel_rfl) ?_
        have hc0 := (Ch.refl (StB t s g H) w7).drew
        refine AllC.head 0 1 (fuel := 10) (by first | exact fun h k => Grew.trans h k | exact fun h k => cls_grew h k) (hc0) (by rfl) (by kernel_rfl) ?_
        simp only [List.take_succ_cons, List.take_zero, List.drop_succ_cons, List.drop_zero]
        repeat (first
          | (refine HeadC.val (by rfl) ?_
             apply Exists.intro
             refine ⟨fun w' hw' => ?_, ?_⟩
             · ((go_simp) <;> (try go_ints) <;> with_reducible rfl)
             try simp only [Act.put, List.setIfInBounds_toArray, List.set_cons_zero, List.set_cons_succ])
          | (refine HeadC.shut (by rfl) ?_
             try simp only [Act.put, List.setIfInBounds_toArray, List.set_cons_zero, List.set_cons_succ]))
        refine HeadC.nil ?_
        refine AllC.head 3 2 (fuel := 8) (by first | exact fun h k => Grew.trans h k | exact fun h k => cls_grew h k) (hc0) (by rfl) (by kernel_rfl) ?_
        simp only [List.take_succ_cons, List.take_zero, List.drop_succ_cons, List.drop_zero]
        repeat (first
          | (refine HeadC.val (by rfl) ?_
             apply Exists.intro
             refine ⟨fun w' hw' => ?_, ?_⟩
             · (have hf_0 := conv_row' (hrr.chA hw' (Nat.le_refl _) (fun ad e => (hI.off ad e).2.1)) cr; (go_simp) <;> (try go_ints) <;> with_reducible rfl)
             try simp only [Act.put, List.setIfInBounds_toArray, List.set_cons_zero, List.set_cons_succ])
          | (refine HeadC.shut (by rfl) ?_
             try simp only [Act.put, List.setIfInBounds_toArray, List.set_cons_zero, List.set_cons_succ]))
        refine HeadC.nil ?_
        refine AllC.one 1 (by kernel_rfl) rfl ?_
        intro wg hg K hK
        go_simp
        have hg0 : Grew w7 wg := (grew_drew _).trans hg
        have hIg := hI.grew hg0
        refine (close_any t s g base c H T r wg hIg.stm (by have := (hIg.stb t (.inl (.inl rfl))); omega) (by omega)).mono ?_
        rintro e w8 ⟨Ac, rfl, hTx, hA, hSt, hch⟩
        have hI8 := hIg.wrote (Ar' := none) hSt hch (fun i h => by cases h) (.inl rfl) (fun ad e => by cases e) (fun z hz => by simp at hz)
        have hc8 : Ch (StB t s g H) w7 w8 := (Ch.of_below hg0).trans hch
        refine hK.out _ _ hc8 ?_
        clear hK K hg hg0 hIg hSt hch hA
        try simp only [Act.put, List.setIfInBounds_toArray, List.set_cons_zero, List.set_cons_succ]
        refine AllC.one 2 (by kernel_rfl) rfl ?_
        intro wg hg K hK
        have hcv := conv_row' (hTx.row.up hg (Nat.le_refl _)) r.length
        go_simp
        replace hI8 := hI8.grew hg
        replace hc8 := hc8.next hg
        refine hK.out _ _ hc8 ?_
        clear hK K hg hcv hTx hc0
        try simp only [Act.put, List.setIfInBounds_toArray, List.set_cons_zero, List.set_cons_succ]
        refine AllC.head 5 3 (fuel := 3) (by first | exact fun h k => Grew.trans h k | exact fun h k => cls_grew h k) (hc8) (by rfl) (by kernel_rfl) ?_
        simp only [List.take_succ_cons, List.take_zero, List.drop_succ_cons, List.drop_zero]
        repeat (first
          | (refine HeadC.val (by rfl) ?_
             apply Exists.intro
             refine ⟨fun w' hw' => ?_, ?_⟩
             · ((go_simp) <;> (try go_ints) <;> with_reducible rfl)
             try simp only [Act.put, List.setIfInBounds_toArray, List.set_cons_zero, List.set_cons_succ])
          | (refine HeadC.shut (by rfl) ?_
             try simp only [Act.put, List.setIfInBounds_toArray, List.set_cons_zero, List.set_cons_succ]))
        refine HeadC.nil ?_
        refine AllC.one 8 (by kernel_rfl) rfl ?_
        intro wg hg K hK
        go_simp
        replace hI8 := hI8.grew hg
        refine (pending_any t s none 0 0 wg hI8.stm.blk).mono ?_
        rintro e w9 ⟨rfl, rfl⟩
        refine hK.out _ _ (hc8.next hg) ?_
        clear hK K hg hc8
        try simp only [Act.put, List.setIfInBounds_toArray, List.set_cons_zero, List.set_cons_succ]
        refine AllC.tail 9 (by rfl) (by kernel_rfl) ?_
        intro wt hwt
        simp only [List.drop_succ_cons, List.drop_zero]
        replace hI8 := hI8.grew hwt
        clear hwt hrr hI
        go_wp2_with fail
        go_roundw
        case rel => exact ⟨k', M + 1, .slice none 0 0, [], [], none, 0, by go_num, by omega, by omega, rfl, hI8⟩
        case measure => simp [intOf] <;> omega
      · have h1' : ((x1 : Int) == 0) = false := by rw [beq_eq_false_iff_ne]; omega
        clear h1
        go_wp2_with fail
        refine (text24_any _ _ _ 30 _ hI.tape (by omega) (by omega)).mono ?_
        rintro e w8 ⟨A1, c1, zs, rfl, hlen, hz, hown, hT, hch⟩
        have hI2 := hI.next hT hch
        have Hz := Lib.hid hz
        clear hT hch hz
        go_wp2_with fail
        have hr1 := own_row hown
        have hrr := hI2.row
        have hcap1 := (own_cap hown).1
        have hob : ∀ ad, A1 = some ad → ¬ StB t s g H ad.block := fun ad e hs => by
          have h1 := own_lt hown ad.block (by rw [e]; rfl)
          have h2 := (hI.stb _ hs).2
          omega
        clear hI hown
        obtain ⟨d0, d1, d2, d3, d4⟩ := hI2.cut.cells
        refine wp_region_g 10 (by kernel_rfl) ?_
        refine AllC.head 0 3 (fuel := 8) (by first | exact fun h k => Grew.trans h k | exact fun h k => cls_grew h k) (grew_drew _) (by rfl) (by kernel_rfl) ?_
        simp only [List.take_succ_cons, List.take_zero, List.drop_succ_cons, List.drop_zero]
        repeat (first
          | (refine HeadC.val (by rfl) ?_
             apply Exists.intro
             refine ⟨fun w' hw' => ?_, ?_⟩
             · (have hf_0 := cell_up hw' d0; have hf_1 := cell_up hw' d1; have hf_2 := cell_up hw' d2; have hf_3 := cell_up hw' d3; (go_simp) <;> (try go_ints) <;> with_reducible rfl)
             try simp only [Act.put, List.setIfInBounds_toArray, List.set_cons_zero, List.set_cons_succ])
          | (refine HeadC.shut (by rfl) ?_
             try simp only [Act.put, List.setIfInBounds_toArray, List.set_cons_zero, List.set_cons_succ]))
        refine HeadC.nil ?_
        refine AllC.one 3 (by kernel_rfl) rfl ?_
        intro wg hg K hK
        go_simp
        have hl := row_new (w := wg) (t := 30) (cs := #[.slice Ar r.length cr, .slice A1 zs.length c1]) (B := (wg.alloc (.cells #[.slice Ar r.length cr, .slice A1 zs.length c1] 30)).heap.size) (by simp)
        have hga : Grew w8 (wg.alloc (.cells #[.slice Ar r.length cr, .slice A1 zs.length c1] 30)) := ((grew_drew _).trans hg).trans (grew_alloc _ _)
        refine hK.out _ _ hga ?_
        clear hK K hg
        try simp only [Act.put, List.setIfInBounds_toArray, List.set_cons_zero, List.set_cons_succ]
        generalize wg.alloc (.cells #[.slice Ar r.length cr, .slice A1 zs.length c1] 30) = wa at *
        generalize wg.heap.size = gl at *
        clear wg
        refine AllC.one 4 (by kernel_rfl) rfl ?_
        intro wg hg K hK
        go_simp
        have hgg := hga.trans hg
        refine (joined_two _ _ _ Ar A1 cr c1 r zs wg (hl.up hg (Nat.le_refl _)) (((hrr.up hga (Nat.le_refl _)).more hga.size).up hg (Nat.le_refl _)) (((hr1.up hga (Nat.le_refl _)).more hga.size).up hg (Nat.le_refl _)) hg.size (by omega)).mono ?_
        rintro e w9 ⟨B9, b9, rfl, hownj, hb⟩
        have hg9 : Grew w8 w9 := hgg.trans hb
        refine hK.out _ _ hg9 ?_
        clear hK K hg hb hga hgg hl
        try simp only [Act.put, List.setIfInBounds_toArray, List.set_cons_zero, List.set_cons_succ]
        have hxl : (r ++ zs).length ≤ 9000 := by rw [List.length_append]; omega
        have hRB := hI2.byt
        have Hxy : Hid (∀ z ∈ r ++ zs, 0 ≤ z ∧ z ≤ 255) := Lib.hid (fun z hz => by
          rw [List.mem_append] at hz
          exact hz.elim (hRB z) (Hz.out z))
        clear hRB
        generalize hxy : r ++ zs = xy at hownj hxl Hxy ⊢
        have HXY := Lib.hid hxy
        clear hxy
        have hjc := (own_cap hownj).1
        have hrj := own_row hownj
        clear hownj
        refine AllC.one 5 (by kernel_rfl) rfl ?_
        intro wg hg K hK
        go_simp
        refine (refWrite_any c OK.out B9 b9 _ xy wg (hrj.up hg (Nat.le_refl _)) hg.size Hxy.out (by omega) hjc).mono ?_
        rintro e w10 ⟨Aw, cw, qs, ls', r2, Ar2, cr2, rfl, hq, hTq, hF, hqs, hr2, hb⟩
        have hbs : w8.heap.size ≤ wg.heap.size := (hg9.trans hg).size
        have hg10 : Grew w8 w10 := (hg9.trans hg).trans hb
        refine hK.out _ _ hg10 ?_
        clear hK K hg hb hrj hg9
        generalize wg.heap.size = bw at *
        clear wg
        try simp only [Act.put, List.setIfInBounds_toArray, List.set_cons_zero, List.set_cons_succ]
        refine AllC.head 6 4 (fuel := 1) (by first | exact fun h k => Grew.trans h k | exact fun h k => cls_grew h k) (hg10) (by rfl) (by kernel_rfl) ?_
        simp only [List.take_succ_cons, List.take_zero, List.drop_succ_cons, List.drop_zero]
        repeat (first
          | (refine HeadC.val (by rfl) ?_
             apply Exists.intro
             refine ⟨fun w' hw' => ?_, ?_⟩
             · ((go_simp) <;> (try go_ints) <;> with_reducible rfl)
             try simp only [Act.put, List.setIfInBounds_toArray, List.set_cons_zero, List.set_cons_succ])
          | (refine HeadC.shut (by rfl) ?_
             try simp only [Act.put, List.setIfInBounds_toArray, List.set_cons_zero, List.set_cons_succ]))
        refine HeadC.nil ?_
        refine AllC.tail 10 (by rfl) (by kernel_rfl) ?_
        intro wt hwt
        simp only [List.drop_succ_cons, List.drop_zero]
        replace hg10 := hg10.trans hwt
        replace hq := own_below hq hwt
        replace hTq := hTq.of hwt
        replace hr2 := own_below hr2 hwt
        have hSB : ∀ i, StB t s g H i → i < bw := fun i hi => Nat.lt_of_lt_of_le (hI2.stb i hi).2 hbs
        replace hI2 := hI2.grew hg10
        replace hr1 := (hr1.up hg10 (Nat.le_refl _)).more hg10.size
        have HF := Lib.hid hF
        have HQ := Lib.hid hqs
        clear hrr d0 d1 d2 d3 d4 hg10 hwt hF hqs hbs
        go_wp2_with fail
        refine (writeS_any t s g base c OK.out H T r A1 c1 _ zs wt hI2.stm hr1 (Nat.le_refl _) (by have := (hI2.stb t (.inl (.inl rfl))); omega) hob Hz.out hcap1 (by omega)).mono ?_
        rintro e w12 ⟨Ap, cp, ps, ls2, r3, H', rfl, hp, hTp, hF2, hps, hfar, hold, hSt, hch⟩
        rw [HXY.out] at hF2 hps
        obtain ⟨rfl, rfl⟩ := HF.out.det hF2
        have HE : Hid (ps.map Part.zs = qs.map Part.zs) := Lib.hid (hps.trans HQ.out.symm)
        have hI3 := hI2.wrote hSt hch hold (own_row hr2) (fun ad e => by
          have h1 := hr2.lt ad.block (by rw [e]; rfl)
          refine ⟨?_, fun hs => ?_, h1.2⟩
          · have := (hSB t (.inl (.inl rfl))); have := hI2.lo.2.1; omega
          · have := hSB _ hs; omega) (full_mem OK.out HF.out Hxy.out)
        have hq2 := own_ch hq hch (fun i hi hs => by have := own_lt hq i hi; have := hSB i hs; omega)
        have hTq2 : Txs w12 bw qs := fun p hp => (hTq p hp).chB hch (fun i hi => .inr (fun ad e hb h => by have := hSB i hi; omega))
        have hplen := Nat.le_trans (own_cap hp).1 (own_cap hp).2
        clear hI2 hq hTq hF2 hps hfar hold hch hr2 hr1
        go_wp2_with fail
        refine (sameTexts_yes Ap Aw cp cw _ ps qs w12 (own_row hp) (own_row hq2) hTp.lie hTq2.lie (Nat.le_refl _) hplen HE.out).mono ?_
        rintro e w13 ⟨rfl, hb⟩
        replace hI3 := hI3.grew hb
        replace hSt : Stm w13 t s g base c H' (T ++ zs) r2 := hI3.stm
        obtain ⟨AH, cH, rfl, _⟩ := own_form hSt.own
        clear hb hp hq2 hTp hTq2
        go_wp2_with fail
        refine (pending_any t s AH r2.length cH w13 hSt.blk).mono ?_
        rintro e w14 ⟨rfl, rfl⟩
        go_wp2_with fail
        go_roundw
        case rel => exact ⟨k', _, .slice AH r2.length cH, T ++ zs, r2, Ar2, cr2, by go_num, by omega, by omega, rfl, hI3⟩
        case measure => simp [intOf] <;> omega
    · obtain rfl : k = 0 := by omega
      go_wp2_with fail
      go_ret
      exact ⟨rfl, hI.fr⟩

end Go.Proofs.Ytnbbbmmpkjiejaa
