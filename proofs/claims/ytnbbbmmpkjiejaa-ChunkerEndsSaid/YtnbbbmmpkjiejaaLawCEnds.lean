/-
  stockyardlaw24.ChunkerEnds returns true.
-/
import Derived.Test.YtnbbbmmpkjiejaaCutPre
import Derived.Test.YtnbbbmmpkjiejaaRefCut
import Derived.Test.YtnbbbmmpkjiejaaTexts
namespace Go.Proofs.Ytnbbbmmpkjiejaa
set_option linter.unusedVariables false
set_option linter.unusedSimpArgs false
set_option linter.unnecessarySimpa false
open Go.RowKit
attribute [local go_sem ↓] Go.wp_at_zero Go.wp_at_succ

set_option maxHeartbeats 1000000 in
theorem lawCEnds_any (A : Option Addr) (cap : Nat) (ls : List Int) (w : World) (hr : Row w w.heap.size A (ls.map (.int .i64))) (hz : ∀ z ∈ ls, -9223372036854775808 ≤ z ∧ z ≤ 9223372036854775807) (hm : ls.length ≤ 9223372036854775807) :
    Calls Try.prog 8 #[.slice A ls.length cap] w fun e w' => e = .returned (.bool true) ∧ Below w.heap.size w w' := by
  have hT := Tp.new (cap := cap) hr (Nat.le_refl _) hz hm
  have g0 := grew_alloc w (.cells #[.slice A ls.length cap, .int .i64 0] 25)
  have hch0 : Ch (At w.heap.size) w (w.alloc (.cells #[.slice A ls.length cap, .int .i64 0] 25)) := Ch.of_below g0
  clear hz g0 hr
  go_enter Try.func8, Try.ntmps8
  go_wp2_with fail
  generalize w.alloc (.cells #[.slice A ls.length cap, .int .i64 0] 25) = w1 at *
  refine (made24_any _ _ _ _ hT (by omega)).mono ?_
  rintro e w2 ⟨c, rfl, hsm, hT2, hch⟩
  have HS := Lib.hid hsm
  have hch2 := hch0.trans hch
  clear hT hch hch0 hsm
  unfold cutV
  have hC := CutAt.new w2 c
  have gC := grew_alloc w2 (.cells #[.int .i64 c.mn, .int .i64 c.mx, .int .i64 c.wn, .int .u64 c.mask] 28)
  have hT3 := hT2.of gC
  have hch3 := hch2.next gC
  have htl := hT2.lt
  clear gC hT2 hch2
  go_wp2_with fail
  generalize w2.alloc (.cells #[.int .i64 c.mn, .int .i64 c.mx, .int .i64 c.wn, .int .u64 c.mask] 28) = w3 at *
  generalize w2.heap.size = gc at *
  clear w2
  have hb3 : Below w.heap.size w w3 := hch3.below (Nat.le_refl _) (fun i hi => by rw [hi]; exact Nat.le_refl _)
  have hne : Hid (¬ At w.heap.size gc) := Lib.hid (by show ¬ gc = _; omega)
  clear hch3
  have htl1 := hT3.lt
  refine (text24_any _ _ _ 90 _ hT3 (by omega) (by omega)).mono ?_
  rintro e w4 ⟨A1, c1, zs1, rfl, hlen1, hz, hown1, hT4, hch⟩
  have Hz1 := Lib.hid hz
  replace hC := hC.ch hch hne.out
  replace hb3 : Below w.heap.size w w4 := Below.trans (B := w.heap.size) hb3 (hch.below hb3.size (fun i hi => by rw [hi]; exact Nat.le_refl _))
  replace hT3 := hT4
  clear hch hz hT4
  have hbase1 := Lib.hid (own_lt hown1)
  have hcap1 := (own_cap hown1).1
  have hr1 := own_row hown1
  have OK := Lib.hid HS.out.ok
  have hlc := lensZ_len OK.out zs1
  have hlp := endsZ_length (c := c) zs1
  have HL := Lib.hid (fun n hn => (lensZ_pos OK.out zs1 n hn).1)
  have HSu := Lib.hid (lensZ_sum OK.out zs1)
  replace hb3 : Grew w w4 := hb3
  clear HS hown1 hbase1 hT3 hne htl1
  obtain ⟨d0, d1, d2, d3, d4⟩ := hC.cells
  go_wp2_with fail
  refine (ends24_at c OK.out A1 c1 _ zs1 _ hr1 (Nat.le_refl _) Hz1.out (by omega)).mono ?_
  rintro e w5 ⟨A2, c2, rfl, hx, hb⟩
  clear d0 d1 d2 d3 d4
  replace hC := hC.of hb
  replace hr1 := (hr1.up hb (Nat.le_refl _)).more (Below.size hb)
  replace hb3 := Grew.trans hb3 hb
  clear hb
  obtain ⟨d0, d1, d2, d3, d4⟩ := hC.cells
  go_wp2_with fail
  refine (refEnds_any c OK.out A1 c1 _ zs1 _ hr1 (Nat.le_refl _) Hz1.out (by omega) hcap1).mono ?_
  rintro e w6 ⟨A3, c3, rfl, hy, hb⟩
  clear d0 d1 d2 d3 d4
  replace hC := hC.of hb
  replace hr1 := (hr1.up hb (Nat.le_refl _)).more (Below.size hb)
  replace hb3 := Grew.trans hb3 hb
  replace hx := own_below hx hb
  clear hb
  obtain ⟨d0, d1, d2, d3, d4⟩ := hC.cells
  go_wp2_with fail
  refine (split_at' c OK.out A1 c1 _ zs1 _ hr1 (Nat.le_refl _) Hz1.out (by omega) hcap1).mono ?_
  rintro e w7 ⟨g, ps, rfl, hp, hF, hps, hb⟩
  clear d0 d1 d2 d3 d4
  replace hr1 := (hr1.up hb (Nat.le_refl _)).more (Below.size hb)
  replace hb3 := Grew.trans hb3 hb
  replace hx := own_below hx hb
  replace hy := own_below hy hb
  have HP := Lib.hid hps
  have hpl := (own_cap hp).2
  clear hb hps hC
  go_wp2_with fail
  refine (known24_any _).mono ?_
  rintro e w8 ⟨rfl, hb⟩
  replace hr1 := (hr1.up hb (Nat.le_refl _)).more (Below.size hb)
  replace hb3 := Grew.trans hb3 hb
  replace hx := own_below hx hb
  replace hy := own_below hy hb
  replace hp := own_below hp hb
  replace hF := hF.of hb
  clear hb
  unfold endsZ at hlp hx hy
  generalize lensZ c zs1 = ls at *
  rw [hlp] at hx hy
  go_wp2_with fail
  have HN := sameNats_yes A2 A3 c2 c3 _ (psums 0 ls) w8 (own_row hx) (own_row hy) (by omega)
  rw [hlp] at HN
  refine HN.mono ?_
  clear HN
  rintro e w9 ⟨rfl, hb⟩
  replace hr1 := (hr1.up hb (Nat.le_refl _)).more (Below.size hb)
  replace hb3 := Grew.trans hb3 hb
  replace hx := own_below hx hb
  replace hy := own_below hy hb
  replace hp := own_below hp hb
  replace hF := hF.of hb
  clear hb hx
  go_wp2_with fail
  refine (refCuts_any A1 c1 _ zs1 A3 c3 ls w9 hr1 (own_row hy) (Nat.le_refl _) hcap1 (by omega) (by rw [HSu.out]; exact Nat.le_refl _) HL.out (by omega) hlp).mono ?_
  rintro e w10 ⟨A5, c5, qs, rfl, hq, hT, hqs, hb⟩
  replace hb3 := Grew.trans hb3 hb
  replace hp := own_below hp hb
  replace hF := hF.of hb
  have HE : Hid (ps.map Part.zs = qs.map Part.zs) := Lib.hid (HP.out.trans hqs.symm)
  clear hb hy hqs
  go_wp2_with fail
  refine (sameTexts_yes _ A5 _ c5 _ ps qs w10 (own_row hp) (own_row hq) hF.lie hT.lie (Nat.le_refl _) hpl HE.out).mono ?_
  rintro e w11 ⟨rfl, hb⟩
  replace hb3 := Grew.trans hb3 hb
  go_wp2_with fail
  go_ret
  exact ⟨rfl, hb3⟩

end Go.Proofs.Ytnbbbmmpkjiejaa
