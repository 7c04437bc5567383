/-
  stockyardlaw24.ChunkerChecks returns true.
-/
import Derived.Test.YtnbbbmmpkjiejaaStream
import Derived.Test.YtnbbbmmpkjiejaaRefCut
namespace Go.Proofs.Ytnbbbmmpkjiejaa
set_option linter.unusedVariables false
set_option linter.unusedSimpArgs false
set_option linter.unnecessarySimpa false
open Go.RowKit
attribute [local go_sem ↓] Go.wp_at_zero Go.wp_at_succ

theorem cut_of {mn mx wn m : Int} (h : cutErr mn mx wn = 0) (m0 : 0 ≤ m) (m1 : m < 18446744073709551616) : ∃ c : CutZ, c.Ok ∧ mn = c.mn ∧ mx = c.mx ∧ wn = c.wn ∧ m = c.mask := by
  have hn : ¬ (wn < 1 ∨ 64 < wn ∨ mn < wn ∨ mx < mn ∨ 8192 < mx) := fun hb => by
    rw [← cutErr_bad hb] at h; cases h
  refine ⟨⟨mn.toNat, mx.toNat, wn.toNat, m⟩, ⟨?_, ?_, ?_, ?_, ?_, m0, m1⟩, ?_, ?_, ?_, rfl⟩ <;> (try simp only) <;> omega
theorem cut4 {w : World} {g : Nat} {a b c d : Value} (h : Blk w g 28 #[a, b, c, d]) : w.cell? ⟨g, 0, none⟩ = some a ∧ w.cell? ⟨g, 1, none⟩ = some b ∧ w.cell? ⟨g, 2, none⟩ = some c ∧ w.cell? ⟨g, 3, none⟩ = some d ∧ g < w.heap.size :=
  ⟨(h.cell 0).trans rfl, (h.cell 1).trans rfl, (h.cell 2).trans rfl, (h.cell 3).trans rfl, h.lt⟩
theorem ends_at (c : CutZ) (ok : c.Ok) (A : Option Addr) (cap B : Nat) (zs : List Int) (w : World) (hr : Row w B A (zs.map (.int .u8))) (hB : B ≤ w.heap.size) (hz : ∀ z ∈ zs, 0 ≤ z ∧ z ≤ 255) (hm : zs.length ≤ 1048576) :
    Calls Try.prog 27 #[.agg #[.int .i64 c.mn, .int .i64 c.mx, .int .i64 c.wn, .int .u64 c.mask], .slice A zs.length cap] w fun e w' => ∃ A' cap', e = .returned (.tuple #[.slice A' (endsZ c zs).length cap', .int .i64 0]) ∧
      w'.ownsRow w.heap.size 3 1 (.slice A' (endsZ c zs).length cap') (endsZ c zs).length (natV (endsZ c zs)) ∧ Below w.heap.size w w' := ends_any c ok A cap B zs w hr hB hz hm

set_option maxHeartbeats 1000000 in
theorem lawCChecks_ok (c : CutZ) (ok : c.Ok) (A : Option Addr) (cap : Nat) (zs : List Int) (w : World) (hr : Row w w.heap.size A (zs.map (.int .u8))) (hz : ∀ z ∈ zs, 0 ≤ z ∧ z ≤ 255) (hl : zs.length ≤ 64) (hcap : zs.length ≤ cap) :
    Calls Try.prog 11 #[.agg #[.int .i64 c.mn, .int .i64 c.mx, .int .i64 c.wn, .int .u64 c.mask], .slice A zs.length cap] w fun e w' => e = .returned (.bool true) ∧ Below w.heap.size w w' := by
  have HR := Lib.hid (fun W => refCheck_any c.mn c.mx c.wn c.mask W)
  have HK := Lib.hid (fun W => check_any c.mn c.mx c.wn c.mask W)
  rw [cutErr_z ok] at HR HK
  unfold cutV at HR HK
  have Hz := Lib.hid hz
  have OK := Lib.hid ok
  have hC := CutAt.new w c
  have g0 := grew_alloc w (.cells #[.int .i64 c.mn, .int .i64 c.mx, .int .i64 c.wn, .int .u64 c.mask] 28)
  have hr1 := (hr.up g0 (Nat.le_refl _)).more g0.size
  have hb3 : Grew w (w.alloc (.cells #[.int .i64 c.mn, .int .i64 c.mx, .int .i64 c.wn, .int .u64 c.mask] 28)) := g0
  clear hz ok hr g0
  obtain ⟨d0, d1, d2, d3, d4⟩ := hC.cells
  go_enter Try.func11, Try.ntmps11
  go_wp2_with fail
  generalize w.alloc (.cells #[.int .i64 c.mn, .int .i64 c.mx, .int .i64 c.wn, .int .u64 c.mask] 28) = w1 at *
  generalize hgc : w.heap.size = gc at *
  have HGc := Lib.hid hgc
  clear hgc
  refine (HR.out w1).mono ?_
  rintro e w2 ⟨rfl, hb⟩
  clear d0 d1 d2 d3 d4
  replace hC := hC.of hb
  replace hr1 := (hr1.up hb (Nat.le_refl _)).more (Below.size hb)
  replace hb3 := Grew.trans hb3 hb
  clear hb
  obtain ⟨d0, d1, d2, d3, d4⟩ := hC.cells
  go_wp2_with fail
  refine (ends_at c OK.out A cap _ zs w2 hr1 (Nat.le_refl _) Hz.out (by omega)).mono ?_
  rintro e w3 ⟨_, _, rfl, _, hb⟩
  clear d0 d1 d2 d3 d4
  replace hC := hC.of hb
  replace hr1 := (hr1.up hb (Nat.le_refl _)).more (Below.size hb)
  replace hb3 := Grew.trans hb3 hb
  clear hb
  obtain ⟨d0, d1, d2, d3, d4⟩ := hC.cells
  go_wp2_with fail
  refine (split_at' c OK.out A cap _ zs w3 hr1 (Nat.le_refl _) Hz.out (by omega) hcap).mono ?_
  rintro e w4 ⟨_, _, rfl, _, _, _, hb⟩
  clear d0 d1 d2 d3 d4
  replace hC := hC.of hb
  replace hr1 := (hr1.up hb (Nat.le_refl _)).more (Below.size hb)
  replace hb3 := Grew.trans hb3 hb
  clear hb
  obtain ⟨d0, d1, d2, d3, d4⟩ := hC.cells
  go_wp2_with fail
  refine (newStream_ok c OK.out w4).mono ?_
  rintro e w5 ⟨_, _, _, rfl, _, _, _, _, hb⟩
  clear d0 d1 d2 d3 d4
  replace hC := hC.of hb
  replace hr1 := (hr1.up hb (Nat.le_refl _)).more (Below.size hb)
  replace hb3 := Grew.trans hb3 hb
  clear hb
  obtain ⟨d0, d1, d2, d3, d4⟩ := hC.cells
  go_wp2_with fail
  refine (known24_any w5).mono ?_
  rintro e w6 ⟨rfl, hb⟩
  clear d0 d1 d2 d3 d4
  replace hC := hC.of hb
  replace hr1 := (hr1.up hb (Nat.le_refl _)).more (Below.size hb)
  replace hb3 := Grew.trans hb3 hb
  clear hb
  obtain ⟨d0, d1, d2, d3, d4⟩ := hC.cells
  go_wp2_with fail
  refine (HK.out w6).mono ?_
  rintro e w7 ⟨rfl, hb⟩
  clear d0 d1 d2 d3 d4
  replace hC := hC.of hb
  replace hr1 := (hr1.up hb (Nat.le_refl _)).more (Below.size hb)
  replace hb3 := Grew.trans hb3 hb
  clear hb
  obtain ⟨d0, d1, d2, d3, d4⟩ := hC.cells
  go_wp2_with fail
  go_ret
  exact ⟨ret_bool (by simp), hb3⟩

set_option maxHeartbeats 1000000 in
theorem lawCChecks_no (mn mx wn m : Int) (h : cutErr mn mx wn ≠ 0) (A : Option Addr) (cap len : Nat) (w : World) (hl : len ≤ 64) :
    Calls Try.prog 11 #[.agg #[.int .i64 mn, .int .i64 mx, .int .i64 wn, .int .u64 m], .slice A len cap] w fun e w' => e = .returned (.bool true) ∧ Below w.heap.size w w' := by
  have he : cutErr mn mx wn = 240 := by unfold cutErr at h ⊢; split at h <;> simp_all
  have HR := Lib.hid (fun W => refCheck_any mn mx wn m W)
  have HK := Lib.hid (fun W => check_any mn mx wn m W)
  have HE := Lib.hid (fun W => ends_bad mn mx wn m A len cap W h)
  have HS := Lib.hid (fun W => split_bad mn mx wn m A len cap W h)
  have HN := Lib.hid (fun W => newStream_no mn mx wn m W h)
  rw [he] at HR HK
  unfold cutV at HR HK HE
  clear h he
  have hC := Blk.new w 28 #[.int .i64 mn, .int .i64 mx, .int .i64 wn, .int .u64 m]
  have hb3 : Grew w (w.alloc (.cells #[.int .i64 mn, .int .i64 mx, .int .i64 wn, .int .u64 m] 28)) := grew_alloc w _
  obtain ⟨d0, d1, d2, d3, d4⟩ := cut4 hC
  go_enter Try.func11, Try.ntmps11
  go_wp2_with fail
  generalize w.alloc (.cells #[.int .i64 mn, .int .i64 mx, .int .i64 wn, .int .u64 m] 28) = w1 at *
  generalize hgc : w.heap.size = gc at *
  have HGc := Lib.hid hgc
  clear hgc
  refine (HR.out w1).mono ?_
  rintro e w2 ⟨rfl, hb⟩
  clear d0 d1 d2 d3 d4
  replace hC := hC.of hb
  replace hb3 := Grew.trans hb3 hb
  clear hb
  obtain ⟨d0, d1, d2, d3, d4⟩ := cut4 hC
  go_wp2_with fail
  refine (HE.out w2).mono ?_
  rintro e w3 ⟨rfl, hb⟩
  clear d0 d1 d2 d3 d4
  replace hC := hC.of hb
  replace hb3 := Grew.trans hb3 hb
  clear hb
  obtain ⟨d0, d1, d2, d3, d4⟩ := cut4 hC
  go_wp2_with fail
  refine (HS.out w3).mono ?_
  rintro e w4 ⟨rfl, hb⟩
  clear d0 d1 d2 d3 d4
  replace hC := hC.of hb
  replace hb3 := Grew.trans hb3 hb
  clear hb
  obtain ⟨d0, d1, d2, d3, d4⟩ := cut4 hC
  go_wp2_with fail
  refine (HN.out w4).mono ?_
  rintro e w5 ⟨rfl, hb⟩
  clear d0 d1 d2 d3 d4
  replace hC := hC.of hb
  replace hb3 := Grew.trans hb3 hb
  clear hb
  obtain ⟨d0, d1, d2, d3, d4⟩ := cut4 hC
  go_wp2_with fail
  refine (known24_any w5).mono ?_
  rintro e w6 ⟨rfl, hb⟩
  clear d0 d1 d2 d3 d4
  replace hC := hC.of hb
  replace hb3 := Grew.trans hb3 hb
  clear hb
  obtain ⟨d0, d1, d2, d3, d4⟩ := cut4 hC
  go_wp2_with fail
  refine (HK.out w6).mono ?_
  rintro e w7 ⟨rfl, hb⟩
  clear d0 d1 d2 d3 d4
  replace hC := hC.of hb
  replace hb3 := Grew.trans hb3 hb
  clear hb
  obtain ⟨d0, d1, d2, d3, d4⟩ := cut4 hC
  go_wp2_with fail
  go_ret
  exact ⟨ret_bool (by simp), hb3⟩

set_option maxHeartbeats 1000000 in
theorem lawCChecks_long (mn mx wn m : Int) (A : Option Addr) (cap len : Nat) (w : World) (hl : 64 < len) :
    Calls Try.prog 11 #[.agg #[.int .i64 mn, .int .i64 mx, .int .i64 wn, .int .u64 m], .slice A len cap] w fun e w' => e = .returned (.bool true) ∧ Below w.heap.size w w' := by
  have g1 : (64 : Int) < (len : Int) := by omega
  go_enter Try.func11, Try.ntmps11
  go_wp2_with fail
  go_ret
  exact ⟨rfl, grew_alloc _ _⟩

theorem lawCChecks_any (mn mx wn m : Int) (m0 : 0 ≤ m) (m1 : m < 18446744073709551616) (A : Option Addr) (cap : Nat) (zs : List Int) (w : World) (hr : Row w w.heap.size A (zs.map (.int .u8))) (hz : ∀ z ∈ zs, 0 ≤ z ∧ z ≤ 255) (hcap : zs.length ≤ cap) :
    Calls Try.prog 11 #[.agg #[.int .i64 mn, .int .i64 mx, .int .i64 wn, .int .u64 m], .slice A zs.length cap] w fun e w' => e = .returned (.bool true) ∧ Below w.heap.size w w' := by
  rcases Nat.lt_or_ge 64 zs.length with hl | hl
  · exact lawCChecks_long mn mx wn m A cap zs.length w hl
  · by_cases he : cutErr mn mx wn = 0
    · obtain ⟨c, ok, rfl, rfl, rfl, rfl⟩ := cut_of he m0 m1
      exact lawCChecks_ok c ok A cap zs w hr hz hl hcap
    · exact lawCChecks_no mn mx wn m he A cap zs.length w hl

end Go.Proofs.Ytnbbbmmpkjiejaa
