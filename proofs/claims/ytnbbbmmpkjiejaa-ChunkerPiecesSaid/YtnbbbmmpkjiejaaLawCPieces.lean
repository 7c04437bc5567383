/-
  stockyardlaw24.ChunkerPieces returns true.
-/
import Derived.Test.YtnbbbmmpkjiejaaCutPre
import Derived.Test.YtnbbbmmpkjiejaaStreamI
namespace Go.Proofs.Ytnbbbmmpkjiejaa
set_option linter.unusedVariables false
set_option linter.unusedSimpArgs false
set_option linter.unnecessarySimpa false
open Go.RowKit
attribute [local go_sem ↓] Go.wp_at_zero Go.wp_at_succ

set_option maxHeartbeats 1000000 in
theorem lawCPieces_any (A : Option Addr) (cap : Nat) (ls : List Int) (w : World) (hr : Row w w.heap.size A (ls.map (.int .i64))) (hz : ∀ z ∈ ls, -9223372036854775808 ≤ z ∧ z ≤ 9223372036854775807) (hm : ls.length ≤ 9223372036854775807) :
    Calls Try.prog 13 #[.slice A ls.length cap] w fun e w' => e = .returned (.bool true) ∧ Below w.heap.size w w' := by
  have hT := Tp.new (cap := cap) hr (Nat.le_refl _) hz hm
  have g0 := grew_alloc w (.cells #[.slice A ls.length cap, .int .i64 0] 25)
  have hch0 : Ch (At w.heap.size) w (w.alloc (.cells #[.slice A ls.length cap, .int .i64 0] 25)) := Ch.of_below g0
  clear hz g0 hr
  go_enter Try.func13, Try.ntmps13
  go_wp2_with fail
  generalize w.alloc (.cells #[.slice A ls.length cap, .int .i64 0] 25) = w1 at *
  refine (made24_any _ _ _ _ hT (by omega)).mono ?_
  rintro e w2 ⟨c, rfl, hsm, hT2, hch⟩
  have HS := Lib.hid hsm
  have hch2 := hch0.trans hch
  clear hT hch hch0 hsm
  unfold cutV
  have hC := CutAt.new w2 c
  have gC := grew_alloc w2 (.cells #[.int .i64 c.mn, .int .i64 c.mx, .int .i64 c.wn, .int .u64 c.mask] 28)
  have hT3 := hT2.of gC
  have hch3 := hch2.next gC
  have htl := hT2.lt
  clear gC hT2 hch2
  go_wp2_with fail
  generalize w2.alloc (.cells #[.int .i64 c.mn, .int .i64 c.mx, .int .i64 c.wn, .int .u64 c.mask] 28) = w3 at *
  generalize w2.heap.size = gc at *
  clear w2
  have hb3 : Below w.heap.size w w3 := hch3.below (Nat.le_refl _) (fun i hi => by rw [hi]; exact Nat.le_refl _)
  have hne : Hid (¬ At w.heap.size gc) := Lib.hid (by show ¬ gc = _; omega)
  clear hch3
  have OK := Lib.hid HS.out.ok
  have hlo := hT3.lt
  obtain ⟨d0, d1, d2, d3, d4⟩ := hC.cells
  have hgc : w.heap.size ≠ gc := fun e => hne.out e.symm
  replace hb3 : Grew w w3 := hb3
  clear HS hne
  go_wp2_with fail
  refine (newStream_ok c OK.out w3).mono ?_
  rintro e w4 ⟨t, s, g, rfl, hStm, ht, hs, hg, hb⟩
  clear d0 d1 d2 d3
  replace hC := hC.of hb
  replace hT3 := hT3.of hb
  replace hb3 := Grew.trans hb3 hb
  go_wp2_with fail
  refine (known24_any _).mono ?_
  rintro e w5 ⟨rfl, hb5⟩
  have hI0 : SI w gc t s g w3.heap.size c (0 + 4) (.slice none 0 0) [] [] [] none w5 := SI.grew (wr := w4) ⟨hT3, hC, hStm, .inl rfl, (fun ad e => by cases e), (fun z hz => by simp at hz), hb3, ⟨hlo, ht, hs, hg, d4, hgc⟩⟩ hb5
  clear hb hb5 hC hT3 hb3 hStm ht hs hg hlo d4 hgc
  generalize w3.heap.size = base at *
  clear w3 w4
  go_wp2_with fail
  refine (tapeNext_any _ _ _ 8 _ hI0.tape (by omega) (by omega)).mono ?_
  rintro e w6 ⟨x, rfl, hx, hT, hch⟩
  have hI := hI0.next hT hch
  have y : x < 8 := by omega
  clear hI0 hT hch hx w5
  go_wp2_with fail
  go_loopw [7, 8, 9] (fun va vg i wr => ∃ (k : Nat) (M : Nat) (H : Value) (al r : List Int) (ls : List Nat) (ps : List Part) (Aa : Option Addr) (ca : Nat) (Ag : Option Addr) (cg : Nat), i = .int .i64 k ∧ M + 40 * k ≤ 500 ∧ al.length + 30 * k ≤ 300 ∧ al.length ≤ ca ∧ va = .slice Aa al.length ca ∧ Sep (.slice Ag ps.length cg) Aa ∧ vg = .slice Ag ps.length cg ∧
    wr.ownsRow base 30 1 (.slice Ag ps.length cg) ps.length (ps.map Part.v) ∧ PI c H base al r ls ps wr ∧ SI w gc t s g base c M H al r al Aa wr) (fun _ _ i _ => (intOf i).toNat)
  case atStart => exact ⟨1 + x, 5, .slice none 0 0, [], [], [], [], none, 0, none, 0, by go_num, by omega, by simp; omega, Nat.le_refl _, rfl, Sep.none, rfl, World.ownsRow_nil _ _ _ _, PI.zero, hI.more (by omega)⟩
  case round =>
    clear hI
    obtain ⟨k, M, H, al, r, ls, ps, Aa, ca, Ag, cg, rfl, hM, hal, hca, rfl, hsep, rfl, hown, hP, hI⟩ := hrel
    by_cases hk0 : 0 < k
    · obtain ⟨k', rfl⟩ : ∃ k', k = k' + 1 := ⟨k - 1, by omega⟩
      have hk1 : (0 : Int) < ((k' + 1 : Nat) : Int) := by omega
      go_wp2_with fail
      refine (text24_any _ _ _ 30 _ hI.tape (by omega) (by omega)).mono ?_
      rintro e w8 ⟨A1, c1, zs, rfl, hlen, hz, hownz, hT, hch⟩
      have hob : ∀ ad, A1 = some ad → ¬ StB t s g H ad.block := fun ad e hs => by
        have h1 := own_lt hownz ad.block (by rw [e]; rfl)
        have h2 := (hI.stb _ hs).2
        omega
      have hrl := hI.stm.no
      replace hrl := nxtL_none_lt OK.out hrl
      have hmx := OK.out.mx
      have htb := hI.lo
      have hown2 := own_ch hown hch (fun i hi h => by have := own_lt hown i hi; have h' : i = w.heap.size := h; omega)
      have hI2 := hI.next hT hch
      have hP2 := hP.ch hch (tape_noBytes hI.tape)
      have hr1 := own_row hownz
      have hcap1 := (own_cap hownz).1
      have Hz := Lib.hid hz
      clear hT hch hz hI hown hownz hP
      go_wp2_with fail
      have hga := grew_alloc w8 (.cells #[.slice Aa al.length ca, .slice A1 zs.length c1] 30)
      have hl := (Blk.new w8 30 #[.slice Aa al.length ca, .slice A1 zs.length c1]).row
      have hI3 := hI2.grew hga
      have hP3 := hP2.of hga
      have hown3 := own_below hown2 hga
      have hr3 := (hr1.up hga (Nat.le_refl _)).more hga.size
      clear hI2 hP2 hown2 hr1 hga
      generalize w8.alloc (.cells #[.slice Aa al.length ca, .slice A1 zs.length c1] 30) = w9 at *
      generalize w8.heap.size = gl at *
      refine (joined_two _ _ _ Aa A1 ca c1 al zs w9 hl hI3.row hr3 (Nat.le_refl _) (by omega)).mono ?_
      rintro e w10 ⟨A10, c10, rfl, hownj, hb⟩
      have hlj := hownj.lt
      have hcj := (own_cap hownj).1
      have hI4 := hI3.grew hb
      have hP4 := hP3.of hb
      have hown4 := own_below hown3 hb
      have hr4 := (hr3.up hb (Nat.le_refl _)).more hb.size
      have hsb : ∀ i, StB t s g H i → i < w9.heap.size := fun i hi => (hI3.stb i hi).2
      have hRB := hI4.byt
      have Hxy : Hid (∀ z ∈ al ++ zs, 0 ≤ z ∧ z ≤ 255) := Lib.hid (fun z hz => by
        rw [List.mem_append] at hz
        exact hz.elim (hRB z) (Hz.out z))
      have hlen2 : (al ++ zs).length + 30 * k' ≤ 300 := by rw [List.length_append]; omega
      have hpl : ps.length ≤ al.length := by
        have hps := congrArg List.length hP4.cuts
        rw [List.length_map, cutsL_length] at hps
        have hlc := hP4.full.count OK.out
        omega
      clear hI3 hP3 hown3 hr3 hb hl hRB
      generalize hxy : al ++ zs = xy at hownj Hxy hlen2 hlj hcj ⊢
      have HXY := Lib.hid hxy
      clear hxy
      have HLJ := Lib.hid hlj
      have HCJ := Lib.hid hcj
      clear hlj hcj
      go_wp2_with fail
      refine (writeS_any t s g base c OK.out H al r A1 c1 _ zs w10 hI4.stm hr4 (Nat.le_refl _) (by have := (hI4.stb t (.inl (.inl rfl))); omega) hob Hz.out hcap1 (by omega)).mono ?_
      rintro e w12 ⟨Ap, cp, qs, ls2, r3, H', rfl, hq, hTq, hF2, hqs, hfar, hold, hSt, hch⟩
      have hI5 := hI4.wrote (q' := xy) hSt hch hold (own_row hownj) (fun ad e => by
        have h1 := HLJ.out ad.block (by rw [e]; rfl)
        refine ⟨?_, fun hs => ?_, h1.2⟩
        · have := (hsb t (.inl (.inl rfl))); have := hI4.lo.2.1; omega
        · have := hsb _ hs; omega) Hxy.out
      have hP5 := hP4.wrote OK.out hI4.stm hch hTq hF2 hqs hfar hold
      rw [HXY.out] at hP5 hI5
      have hj5 := own_ch hownj hch (fun i hi hs => by have h1 := (HLJ.out i hi).1; have h2 := hsb i hs; omega)
      have hown5 := own_ch hown4 hch (fun i hi hs => hI4.stm.ne_own hown4 (by decide) (by decide) (by decide) (by decide) i hi hs)
      have hse5 : Sep (.slice Ag ps.length cg) A10 := fun ad e h => own_own_ne hown5 hj5 (by decide) _ h (by rw [e]; rfl)
      have hql : qs.length ≤ r.length + zs.length := by
        have hqq := congrArg List.length hqs
        rw [List.length_map, cutsL_length] at hqq
        have hlq := hF2.count OK.out
        rw [List.length_append] at hlq
        omega
      have hbs : base ≤ w12.heap.size := by have := (hI5.stb t (.inl (.inl rfl))); omega
      clear hI4 hP4 hown4 hch hold hfar hSt hF2 hqs hTq hownj hr4 hsb
      go_wp2_with (at_builtin; refine wpList_append_row rfl (.tmp 47) (.tmp 50) rfl base elem_bytes (by rfl) hown5 _ (by rfl) (by simp) (own_row hq) (ones_part qs) (by unfold maxLen; omega) (by omega) hbs ?_; intro A6 c6 w13 hown6 hg6 hwh; have hsp6 : Sep (.slice A6 (ps.length + qs.length) c6) A10 := Sep.grown hse5 hwh (fun ad e => (hI5.off ad e).2.2); have hI6 := hI5.wide hown5 hg6 (fun ad e h => own_own_ne hown5 hj5 (by decide) _ h (by rw [e]; rfl)) (by decide) (by decide) (by decide) (by decide); have hP6 := hP5.ch (Ch.of_own hg6) (own_noBytes hown5 (by decide)); clear hI5 hP5 hown5 hg6 hq)
      go_roundw
      case rel =>
        refine ⟨k', _, H', xy, r3, ls ++ ls2, ps ++ qs, A10, c10, A6, c6, by go_num, by omega, hlen2, HCJ.out, rfl, (by rw [List.length_append]; exact hsp6), by rw [List.length_append], ?_, hP6, hI6⟩
        rw [List.length_append, List.map_append]
        exact hown6
      case measure => simp [intOf] <;> omega
    · obtain rfl : k = 0 := by omega
      have hrl := hI.stm.no
      replace hrl := nxtL_none_lt OK.out hrl
      have hmx := OK.out.mx
      go_wp2_with fail
      refine (close_any t s g base c H al r wr hI.stm (by have := (hI.stb t (.inl (.inl rfl))); omega) (by omega)).mono ?_
      rintro e w2 ⟨Al, rfl, hTl, hA, hSt, hch⟩
      have hT2 : Txs w2 base ps := hP.closed hI.stm hch
      have hown2 := own_ch hown hch (fun i hi hs => hI.stm.ne_own hown (by decide) (by decide) (by decide) (by decide) i hi hs)
      have hI2 := hI.wrote (q' := al) hSt hch (fun i h => by cases h) hI.row hI.off hI.byt
      have HA := Lib.hid (hP.full.all OK.out)
      have HCu := Lib.hid hP.cuts
      have hpl : ps.length ≤ al.length := by
        have hps := congrArg List.length hP.cuts
        rw [List.length_map, cutsL_length] at hps
        have hlc := hP.full.count OK.out
        omega
      have hbs : base ≤ w2.heap.size := by have := (hI2.stb t (.inl (.inl rfl))); omega
      clear hI hP hown hch hSt hA
      by_cases hr0 : r = []
      · have hr1 : ¬ (0 < (r.length : Int)) := by rw [hr0]; simp
        have HE : Hid (ps.map Part.zs = cutsL (lensZ c al) al) := Lib.hid (by rw [HA.out, if_pos hr0, List.append_nil]; exact HCu.out)
        clear hr0 HA HCu
        obtain ⟨d0, d1, d2, d3, d4⟩ := hI2.cut.cells
        go_wp2_with fail
        refine (split_at' c OK.out Aa ca _ al w2 hI2.row (Nat.le_refl _) hI2.byt (by omega) hca).mono ?_
        rintro e w3 ⟨gq, qs, rfl, hq, hF, hqs, hb⟩
        have HE2 : Hid (ps.map Part.zs = qs.map Part.zs) := Lib.hid (HE.out.trans hqs.symm)
        have hI3 := hI2.grew hb
        have hT3 := hT2.of hb
        have hown3 := own_below hown2 hb
        clear hqs HE hI2 hT2 hown2 hb d0 d1 d2 d3 d4
        go_wp2_with fail
        refine (sameTexts_yes Ag _ cg _ _ ps qs w3 (own_row hown3) (own_row hq) hT3.lie hF.lie (Nat.le_refl _) (by omega) HE2.out).mono ?_
        rintro e w4 ⟨rfl, hb⟩
        go_wp2_with fail
        go_ret
        exact ⟨rfl, (hI3.grew hb).fr⟩
      · have hr1 : 0 < (r.length : Int) := by have := List.length_pos_iff.2 hr0; omega
        have HE : Hid ((ps ++ [(⟨Al, r.length, r⟩ : Part)]).map Part.zs = cutsL (lensZ c al) al) := Lib.hid (by rw [HA.out, if_neg hr0, List.map_append, HCu.out]; rfl)
        clear hr0 HA HCu
        go_wp2_with (at_builtin; refine wpList_append_row rfl (.tmp 57) (.tmp 59) rfl base elem_bytes (by rfl) (hown2.alloc _) _ (by rfl) (by rfl) (Blk.row (Blk.new w2 30 #[.slice Al r.length r.length])) (by simp [Value.oneCell']) (by unfold maxLen; omega) (by omega) (by simp; omega) ?_; intro A6 c6 w13 hown6 hg6 _; have hga := grew_alloc w2 (.cells #[.slice Al r.length r.length] 30); have ho' := own_below hown2 hga; have hI6 := (hI2.grew hga).wide ho' hg6 hsep (by decide) (by decide) (by decide) (by decide); have hT6 := ((hT2.snoc hTl).of hga).ch (Ch.of_own hg6) (own_noBytes ho' (by decide)); clear hI2 hT2 hown2 hg6 hga ho' hTl; obtain ⟨d0, d1, d2, d3, d4⟩ := hI6.cut.cells)
        refine (split_at' c OK.out Aa ca _ al w13 hI6.row (Nat.le_refl _) hI6.byt (by omega) hca).mono ?_
        rintro e w3 ⟨gq, qs, rfl, hq, hF, hqs, hb⟩
        have HE2 : Hid ((ps ++ [(⟨Al, r.length, r⟩ : Part)]).map Part.zs = qs.map Part.zs) := Lib.hid (HE.out.trans hqs.symm)
        have hI3 := hI6.grew hb
        have hT3 := hT6.of hb
        have hown3 := own_below hown6 hb
        clear hqs HE hI6 hT6 hown6 hb d0 d1 d2 d3 d4
        go_wp2_with fail
        refine (same_snoc A6 _ c6 _ hown3 (own_row hq) hT3.lie hF.lie (by omega) HE2.out).mono ?_
        rintro e w4 ⟨rfl, hb⟩
        go_wp2_with fail
        go_ret
        exact ⟨rfl, (hI3.grew hb).fr⟩

end Go.Proofs.Ytnbbbmmpkjiejaa
