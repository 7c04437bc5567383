/-
  stockyardlaw24.ChunkerEven returns true.
-/
import Derived.Test.YtnbbbmmpkjiejaaCutPre
import Derived.Test.YtnbbbmmpkjiejaaLawCParts
import Derived.Test.YtnbbbmmpkjiejaaEvenLaws
namespace Go.Proofs.Ytnbbbmmpkjiejaa
set_option linter.unusedVariables false
set_option linter.unusedSimpArgs false
set_option linter.unnecessarySimpa false
open Go.RowKit
attribute [local go_sem ↓] Go.wp_at_zero Go.wp_at_succ

theorem zero_ok {c : CutZ} (ok : c.Ok) : CutZ.Ok ⟨c.mn, c.mx, c.wn, 0⟩ := { ok with m0 := by show (0 : Int) ≤ 0; omega, m1 := by show (0 : Int) < 18446744073709551616; omega }
theorem part_is {ps : List Part} {c : CutZ} (ok : c.Ok) {zs : List Int} (h : ps.map Part.zs = cutsL (lensZ c zs) zs) {K : Nat} (hK : ∀ i, i + 1 < (lensZ c zs).length → (lensZ c zs)[i]? = some K) {k : Nat} (hk : k < ps.length) (h1 : k + 1 < ps.length) : ps[k].zs.length = K := by
  have hl := lens_of ok h
  have hlen : (lensZ c zs).length = ps.length := by rw [← hl, List.length_map]
  have hg : (lensZ c zs)[k]? = some ps[k].zs.length := by rw [← hl, List.getElem?_map, List.getElem?_eq_getElem hk]; rfl
  rw [hK k (by omega)] at hg
  injection hg with hg
  exact hg.symm

set_option maxHeartbeats 1000000 in
theorem lawCEven_any (A : Option Addr) (cap : Nat) (ls : List Int) (xb : Int) (x0 : 0 ≤ xb) (x1 : xb ≤ 255) (w : World) (hr : Row w w.heap.size A (ls.map (.int .i64))) (hz : ∀ z ∈ ls, -9223372036854775808 ≤ z ∧ z ≤ 9223372036854775807) (hm : ls.length ≤ 9223372036854775807) :
    Calls Try.prog 10 #[.slice A ls.length cap, .int .u8 xb] w fun e w' => e = .returned (.bool true) ∧ Below w.heap.size w w' := by
  have hT := Tp.new (cap := cap) hr (Nat.le_refl _) hz hm
  have g0 := grew_alloc w (.cells #[.slice A ls.length cap, .int .i64 0] 25)
  have hch0 : Ch (At w.heap.size) w (w.alloc (.cells #[.slice A ls.length cap, .int .i64 0] 25)) := Ch.of_below g0
  clear hz g0 hr
  go_enter Try.func10, Try.ntmps10
  go_wp2_with fail
  generalize w.alloc (.cells #[.slice A ls.length cap, .int .i64 0] 25) = w1 at *
  refine (made24_any _ _ _ _ hT (by omega)).mono ?_
  rintro e w2 ⟨c, rfl, hsm, hT2, hch⟩
  have HS := Lib.hid hsm
  have hch2 := hch0.trans hch
  clear hT hch hch0 hsm
  unfold cutV
  have hC := CutAt.new w2 c
  have gC := grew_alloc w2 (.cells #[.int .i64 c.mn, .int .i64 c.mx, .int .i64 c.wn, .int .u64 c.mask] 28)
  have hT3 := hT2.of gC
  have hch3 := hch2.next gC
  have htl := hT2.lt
  clear gC hT2 hch2
  go_wp2_with fail
  generalize w2.alloc (.cells #[.int .i64 c.mn, .int .i64 c.mx, .int .i64 c.wn, .int .u64 c.mask] 28) = w3 at *
  generalize w2.heap.size = gc at *
  clear w2
  have hb3 : Below w.heap.size w w3 := hch3.below (Nat.le_refl _) (fun i hi => by rw [hi]; exact Nat.le_refl _)
  have hne : Hid (¬ At w.heap.size gc) := Lib.hid (by show ¬ gc = _; omega)
  clear hch3
  have htl1 := hT3.lt
  refine (text24_any _ _ _ 120 _ hT3 (by omega) (by omega)).mono ?_
  rintro e w4 ⟨A1, c1, zs1, rfl, hlen1, hz, hown1, hT4, hch⟩
  have Hz1 := Lib.hid hz
  replace hC := hC.ch hch hne.out
  replace hb3 : Below w.heap.size w w4 := Below.trans (B := w.heap.size) hb3 (hch.below hb3.size (fun i hi => by rw [hi]; exact Nat.le_refl _))
  replace hT3 := hT4
  clear hch hz hT4
  have hbase1 := Lib.hid (own_lt hown1)
  have hcap1 := (own_cap hown1).1
  have hr1 := own_row hown1
  have OK := Lib.hid HS.out.ok
  have hs4 := hb3.size
  clear HS hown1 hbase1 hT3 hne htl1
  obtain ⟨i0, hi, hz0, hz1, hz2⟩ := info_parts (show (Try.prog.info? 5).map (fun i => (i.zero, i.size, i.bytes)) = some (some (.int .u8 0), 1, 1) from rfl)
  go_wp2_with (at_make; refine wpList_make_full _ rfl (.tmp 24) (.tmp 24) 30 rfl w4.heap.size 5 i0 (.int .u8 0) 1 Try.underlying30 hi hz0 hz1 .i64 .i64 _ _ zs1.length rfl rfl rfl rfl (by rw [hz2]; omega) (by unfold maxLen; omega) (Nat.le_refl _) ?_)
  intro w5 hown hgrow
  simp only [Value.cells, Nat.mul_one, toList_madeCells_one] at hown
  have hG : Grew w4 w5 := (Below.refl _ _).grown hgrow (Nat.le_refl _) (by simp)
  clear hgrow
  go_wp2_with fail
  go_loopw [9] (fun i wr => (∃ k : Nat, k ≤ zs1.length ∧ i = .int .i64 k ∧ wr.ownsRow w4.heap.size 5 1 (.slice (some ⟨w4.heap.size, 0, none⟩) zs1.length zs1.length) zs1.length (List.replicate k (.int .u8 xb) ++ List.replicate (zs1.length - k) (.int .u8 0))) ∧ Below w4.heap.size w4 wr) (fun i _ => zs1.length - (intOf i).toNat)
  case atStart => exact ⟨⟨0, Nat.zero_le _, rfl, by simpa using hown⟩, hG⟩
  case round =>
    clear hown hG
    obtain ⟨⟨k, hk, rfl, hown⟩, hb⟩ := hrel
    by_cases hlt : k < zs1.length
    · have hg1 := hown.cellAt k (by omega)
      rw [fill_get _ _ _ _ (by rw [List.length_replicate]) hlt] at hg1
      have hfz := hown.frozenAt k
      have hk1 : (k : Int) < (zs1.length : Int) := by omega
      have HST := Lib.hid (hown.stored k (.int .u8 xb))
      clear hown
      go_wp2_with fail
      go_roundw
      case rel =>
        refine ⟨⟨k + 1, by omega, by go_num, ?_⟩, hb.setCell (by show w4.heap.size ≤ w4.heap.size; omega) _⟩
        have h := HST.out.1
        rw [fill_set _ _ _ _ _ (by rw [List.length_replicate]) hlt] at h
        rw [List.replicate_succ']
        exact h
      case measure => simp [intOf]; omega
    · obtain rfl : k = zs1.length := by omega
      have hrow : Row wr wr.heap.size (some ⟨w4.heap.size, 0, none⟩) ((List.replicate zs1.length xb).map (.int .u8)) := by
        have h := own_row hown
        simpa using h
      replace hC := hC.of hb
      replace hr1 := (hr1.up hb (Nat.le_refl _)).more hb.size
      replace hb3 : Grew w wr := Grew.trans hb3 hb
      have HX1 := Lib.hid (split_at ⟨c.mn, c.mx, c.wn, 0⟩ (zero_ok OK.out) A1 c1 _ zs1 wr hr1 (Nat.le_refl _) Hz1.out (by omega) hcap1)
      obtain ⟨d0, d1, d2, d3, d4⟩ := hC.cells
      clear hown hb
      go_wp2_with fail
      refine HX1.out.mono ?_
      clear HX1
      rintro e w6 ⟨g1, ps, rfl, hown1, hF1, hps1, hb⟩
      replace hC := hC.of hb
      replace hrow := (hrow.up hb (Nat.le_refl _)).more hb.size
      replace hb3 : Grew w w6 := Grew.trans hb3 hb
      have HP1 := Lib.hid hps1
      have hx2 := split_at c OK.out (some ⟨w4.heap.size, 0, none⟩) zs1.length _ (List.replicate zs1.length xb) w6 hrow (Nat.le_refl _) (fun z hz => by rw [(List.mem_replicate.1 hz).2]; exact ⟨x0, x1⟩) (by rw [List.length_replicate]; omega) (by rw [List.length_replicate]; exact Nat.le_refl _)
      rw [List.length_replicate] at hx2
      have HX2 := Lib.hid hx2
      clear hx2 hb hps1 hF1 d0 d1 d2 d3 d4 hrow hr1
      obtain ⟨d0, d1, d2, d3, d4⟩ := hC.cells
      go_wp2_with fail
      refine HX2.out.mono ?_
      clear HX2
      rintro e w7 ⟨g2, qs, rfl, hown2, hF2, hps2, hb⟩
      replace hC := hC.of hb
      replace hown1 := own_below hown1 hb
      replace hb3 : Grew w w7 := Grew.trans hb3 hb
      have HP2 := Lib.hid hps2
      clear hb hps2 hF2 d0 d1 d2 d3 d4
      go_wp2_with fail
      refine (known24_any _).mono ?_
      rintro e w8 ⟨rfl, hb⟩
      replace hC := hC.of hb
      have hr2 := own_row (own_below hown1 hb)
      have hr3 := own_row (own_below hown2 hb)
      replace hb3 : Grew w w8 := Grew.trans hb3 hb
      obtain ⟨K, hK, hKs⟩ := even_same OK.out xb zs1.length
      have H1 := Lib.hid (fun k (h : k < ps.length) h' => part_is (zero_ok OK.out) HP1.out (even_zero (zero_ok OK.out) rfl zs1) h h')
      have H2 := Lib.hid (fun k (h : k < qs.length) h' => part_is OK.out HP2.out hKs h h')
      have hp1 := (own_cap hown1).2
      have hp2 := (own_cap hown2).2
      have ps1 : ps.length ≤ 1048576 := by
        have h1 := congrArg List.length HP1.out
        rw [List.length_map, cutsL_length, ← endsZ_length] at h1
        have := ends_len (zero_ok OK.out) zs1
        omega
      have qs1 : qs.length ≤ 1048576 := by
        have h1 := congrArg List.length HP2.out
        rw [List.length_map, cutsL_length, ← endsZ_length] at h1
        have := ends_len OK.out (List.replicate zs1.length xb)
        rw [List.length_replicate] at this
        omega
      obtain ⟨d0, d1, _, _, d4⟩ := hC.cells
      clear hb hown1 hown2 hC hKs hp1 hp2
      go_wp2_with fail
      go_loopw [14] (fun i wz => (∃ k : Nat, k ≤ ps.length ∧ i = .int .i64 k) ∧ Drawn w8 wz) (fun i _ => ps.length - (intOf i).toNat)
      case atStart => exact ⟨⟨0, Nat.zero_le _, rfl⟩, Drawn.refl _⟩
      case round =>
        obtain ⟨⟨k, hk, rfl⟩, hd⟩ := hrel
        by_cases hl : k + 1 < ps.length
        · have e0 := (hd.cell _).trans d0
          have hlt : k < ps.length := by omega
          obtain ⟨ad, he, hb1, hc⟩ := (hr2.keep (w' := wr) fun p _ => hd.cell p).at_ (k := k) (by simpa using hlt)
          obtain rfl : (⟨g1, 0, none⟩ : Addr) = ad := by injection he
          rw [List.getElem_map] at hc
          unfold Part.v at hc
          rw [Addr.add_lit, Nat.zero_add, H1.out k hlt hl] at hc
          generalize ps[k].A = pA at *
          generalize ps[k].cap = pc at *
          clear he d0 d1
          go_wp2_with fail
          go_quiet (fail)
          go_wp2
          go_roundw
          case rel => exact ⟨⟨k + 1, by omega, by go_num⟩, hd.drewN _⟩
          case measure => simp [intOf]; omega
        · have hl2 : (ps.length : Int) ≤ (k : Int) + 1 := by omega
          have e0 := (hd.cell _).trans d0
          have e1 := (hd.cell _).trans d1
          have hr4 := hr3.keep (w' := wr) fun p _ => hd.cell p
          have hb4 : Grew w wr := Grew.trans hb3 (hd.below _)
          clear d0 d1
          go_wp2_with fail
          generalize wr = w9 at *
          clear hd hr2 hr3 hb3
          go_loopw [15] (fun i wz => (∃ k : Nat, k ≤ qs.length ∧ i = .int .i64 k) ∧ Drawn w9 wz) (fun i _ => qs.length - (intOf i).toNat)
          case atStart => exact ⟨⟨0, Nat.zero_le _, rfl⟩, Drawn.refl _⟩
          case round =>
            obtain ⟨⟨j, hj, rfl⟩, hd⟩ := hrel
            by_cases hl3 : j + 1 < qs.length
            · have f0 := (hd.cell _).trans e0
              have f1 := (hd.cell _).trans e1
              have hlt : j < qs.length := by omega
              have hlt0 : 0 < qs.length := by omega
              obtain ⟨ad, he, hb1, hc⟩ := (hr4.keep (w' := wr) fun p _ => hd.cell p).at_ (k := j) (by simpa using hlt)
              obtain rfl : (⟨g2, 0, none⟩ : Addr) = ad := by injection he
              obtain ⟨ad, he2, hb2, hc2⟩ := (hr4.keep (w' := wr) fun p _ => hd.cell p).at_ (k := 0) (by simpa using hlt0)
              obtain rfl : (⟨g2, 0, none⟩ : Addr) = ad := by injection he2
              rw [List.getElem_map] at hc hc2
              unfold Part.v at hc hc2
              rw [Addr.add_lit, Nat.zero_add, H2.out j hlt hl3] at hc
              rw [Addr.add_lit, Nat.zero_add, H2.out 0 hlt0 (by omega)] at hc2
              generalize qs[j].A = pA at *
              generalize qs[j].cap = pc at *
              generalize qs[0].A = qA at *
              generalize qs[0].cap = qc at *
              clear he he2 e0 e1
              rcases hK with rfl | rfl
              · go_wp2_with fail
                go_quiet (fail)
                go_wp2
                go_roundw
                case rel => exact ⟨⟨j + 1, by omega, by go_num⟩, hd.drewN _⟩
                case measure => simp [intOf]; omega
              · by_cases hmm : c.mx = c.mn
                · have n1 : ((c.mx : Int) != (c.mn : Int)) = false := by simp [hmm]
                  have n2 : (c.mx != c.mn) = false := by simp [hmm]
                  clear hmm
                  go_wp2_with fail
                  go_quiet (fail)
                  go_wp2
                  go_roundw
                  case rel => exact ⟨⟨j + 1, by omega, by go_num⟩, hd.drewN _⟩
                  case measure => simp [intOf]; omega
                · have n1 : ((c.mx : Int) != (c.mn : Int)) = true := by rw [bne_iff_ne]; omega
                  have n2 : (c.mx != c.mn) = true := by rw [bne_iff_ne]; omega
                  clear hmm
                  go_wp2_with fail
                  go_quiet (fail)
                  go_wp2
                  go_roundw
                  case rel => exact ⟨⟨j + 1, by omega, by go_num⟩, hd.drewN _⟩
                  case measure => simp [intOf]; omega
            · have hl4 : (qs.length : Int) ≤ (j : Int) + 1 := by omega
              go_wp2_with fail
              go_ret
              exact ⟨ret_bool rfl, Grew.trans hb4 (hd.below _)⟩

end Go.Proofs.Ytnbbbmmpkjiejaa
