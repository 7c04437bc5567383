/-
  transfer.copied.
-/
import Derived.Test.YtpoiejgoongllaaDel37
namespace Go.Proofs.Ytpoiejgoongllaa
section
set_option linter.unusedVariables false
set_option linter.unusedSimpArgs false
set_option linter.unnecessarySimpa false
open Go.RowKit
attribute [local go_sem ↓] Go.wp_at_zero Go.wp_at_succ

set_option maxRecDepth 100000 in
set_option maxHeartbeats 1000000 in
theorem copied_any (x : Pk) (w : World) (hr : Row w w.heap.size x.p.A (x.p.zs.map (.int .u8))) (hm : x.p.zs.length ≤ 70368744177664) :
    Calls Try.prog 71 #[.agg #[.int .i64 x.kind, .int .u64 x.id.1, .int .i64 x.id.2, .int .i64 x.frm, .slice x.p.A x.p.zs.length x.p.cap]] w fun e w' => ∃ A c, e = .returned (.agg #[.int .i64 x.kind, .int .u64 x.id.1, .int .i64 x.id.2, .int .i64 x.frm, .slice A x.p.zs.length c]) ∧
      w'.ownsRow w.heap.size 5 1 (.slice A x.p.zs.length c) x.p.zs.length (x.p.zs.map (.int .u8)) ∧ Grew w w' := by
  obtain ⟨k, ⟨i1, i2⟩, f, bA, bc, zs⟩ := x
  simp only at hr hm ⊢
  have g1 := grew_alloc w (.cells #[.int .i64 k, .int .u64 i1, .int .i64 i2, .int .i64 f, .slice bA zs.length bc] 55)
  have k1 := Blk.new w 55 #[.int .i64 k, .int .u64 i1, .int .i64 i2, .int .i64 f, .slice bA zs.length bc]
  have s1 : (w.alloc (.cells #[.int .i64 k, .int .u64 i1, .int .i64 i2, .int .i64 f, .slice bA zs.length bc] 55)).heap.size = w.heap.size + 1 := by simp
  generalize hw1 : w.alloc (.cells #[.int .i64 k, .int .u64 i1, .int .i64 i2, .int .i64 f, .slice bA zs.length bc] 55) = w1 at *
  have g2 := grew_alloc w1 (.cells #[.int .i64 0, .int .u64 0, .int .i64 0, .int .i64 0, .slice none 0 0] 55)
  have k2 := Blk.new w1 55 #[.int .i64 0, .int .u64 0, .int .i64 0, .int .i64 0, .slice none 0 0]
  replace k1 := k1.of g2
  have c4 := (k1.cell 4).trans (show _ = some (.slice bA zs.length bc) from rfl)
  have gg := Grew.trans g1 g2
  rw [s1] at k2
  have s2 : (w1.alloc (.cells #[.int .i64 0, .int .u64 0, .int .i64 0, .int .i64 0, .slice none 0 0] 55)).heap.size = w.heap.size + 2 := by simp [s1]
  subst hw1
  have HCl := Lib.hid (cloneB_any bA bc _ zs _ (hr.up gg (Nat.le_refl _)) gg.size hm)
  clear hr g1 g2
  go_enter Try.func71, Try.ntmps71
  go_wp2_with fail
  refine HCl.out.mono ?_
  rintro e w3 ⟨A, c, rfl, hown, hb⟩
  clear HCl
  replace gg := Grew.trans gg hb
  replace k1 := k1.of hb
  replace k2 := k2.of hb
  rw [s2] at hown
  have e0 := (k1.cell 0).trans (show _ = some (.int .i64 k) from rfl)
  have e1 := (k1.cell 1).trans (show _ = some (.int .u64 i1) from rfl)
  have e2 := (k1.cell 2).trans (show _ = some (.int .i64 i2) from rfl)
  have e3 := (k1.cell 3).trans (show _ = some (.int .i64 f) from rfl)
  have e4 := (k1.cell 4).trans (show _ = some (.slice bA zs.length bc) from rfl)
  have z4 := k1.frozen 4
  have hS1 : Ch (At w.heap.size) w3 (w3.setCell ⟨w.heap.size, 4, none⟩ (.slice A zs.length c)) := (Ch.refl (At w.heap.size) w3).set_at 4 _
  have k1s := k1.set_ 4 (.slice A zs.length c)
  have k2s := k2.ch hS1 (fun h => by have h2 : w.heap.size + 1 = w.heap.size := h; omega)
  have hos := own_ch hown hS1 (fun i hi h => by have h1 := own_lt hown i hi; have h2 : i = w.heap.size := h; omega)
  have gs := Below.trans (B := w.heap.size) gg (hS1.below gg.size (fun i hi => by have h : i = w.heap.size := hi; omega))
  have d0 := (k1s.cell 0).trans (show _ = some (.int .i64 k) from rfl)
  have d1 := (k1s.cell 1).trans (show _ = some (.int .u64 i1) from rfl)
  have d2 := (k1s.cell 2).trans (show _ = some (.int .i64 i2) from rfl)
  have d3 := (k1s.cell 3).trans (show _ = some (.int .i64 f) from rfl)
  have d4 := (k1s.cell 4).trans (show _ = some (.slice A zs.length c) from rfl)
  clear k1 k2 k1s hS1 gg hown hb s1 s2 c4
  have y0 := k2s.frozen 0
  have y1 := k2s.frozen 1
  have y2 := k2s.frozen 2
  have y3 := k2s.frozen 3
  have y4 := k2s.frozen 4
  have q0 := (k2s.cell 0).trans (show _ = some (.int .i64 0) from rfl)
  have q1 := (k2s.cell 1).trans (show _ = some (.int .u64 0) from rfl)
  have q2 := (k2s.cell 2).trans (show _ = some (.int .i64 0) from rfl)
  have q3 := (k2s.cell 3).trans (show _ = some (.int .i64 0) from rfl)
  have q4 := (k2s.cell 4).trans (show _ = some (.slice none 0 0) from rfl)
  have HFs := Lib.hid (((((k2s.set_ 0 (.int .i64 k)).set_ 1 (.int .u64 i1)).set_ 2 (.int .i64 i2)).set_ 3 (.int .i64 f)).set_ 4 (.slice A zs.length c))
  have hCs : Ch (At (w.heap.size + 1)) (w3.setCell ⟨w.heap.size, 4, none⟩ (.slice A zs.length c)) ((((((w3.setCell ⟨w.heap.size, 4, none⟩ (.slice A zs.length c)).setCell ⟨w.heap.size + 1, 0, none⟩ (.int .i64 k)).setCell ⟨w.heap.size + 1, 1, none⟩ (.int .u64 i1)).setCell ⟨w.heap.size + 1, 2, none⟩ (.int .i64 i2)).setCell ⟨w.heap.size + 1, 3, none⟩ (.int .i64 f)).setCell ⟨w.heap.size + 1, 4, none⟩ (.slice A zs.length c)) := ((((((Ch.refl (At (w.heap.size + 1)) (w3.setCell ⟨w.heap.size, 4, none⟩ (.slice A zs.length c))).set_at 0 (.int .i64 k)).set_at 1 (.int .u64 i1)).set_at 2 (.int .i64 i2)).set_at 3 (.int .i64 f)).set_at 4 (.slice A zs.length c))
  have HGs : Hid (Grew w ((((((w3.setCell ⟨w.heap.size, 4, none⟩ (.slice A zs.length c)).setCell ⟨w.heap.size + 1, 0, none⟩ (.int .i64 k)).setCell ⟨w.heap.size + 1, 1, none⟩ (.int .u64 i1)).setCell ⟨w.heap.size + 1, 2, none⟩ (.int .i64 i2)).setCell ⟨w.heap.size + 1, 3, none⟩ (.int .i64 f)).setCell ⟨w.heap.size + 1, 4, none⟩ (.slice A zs.length c))) := Lib.hid (Below.trans (B := w.heap.size) gs (hCs.below (Below.size gs) (fun i hi => by have h : i = w.heap.size + 1 := hi; omega)))
  have HOs := Lib.hid (own_ch hos hCs (fun i hi h => by have h1 := own_lt hos i hi; have h2 : i = w.heap.size + 1 := h; omega))
  clear hCs
  clear k2s gs hos
  go_wp2_with fail
  have f0 := (HFs.out.cell 0).trans (show _ = some (.int .i64 k) from rfl)
  have f1 := (HFs.out.cell 1).trans (show _ = some (.int .u64 i1) from rfl)
  have f2 := (HFs.out.cell 2).trans (show _ = some (.int .i64 i2) from rfl)
  have f3 := (HFs.out.cell 3).trans (show _ = some (.int .i64 f) from rfl)
  have f4 := (HFs.out.cell 4).trans (show _ = some (.slice A zs.length c) from rfl)
  refine bodyPost_ret (v := .agg #[.int .i64 k, .int .u64 i1, .int .i64 i2, .int .i64 f, .slice A zs.length c]) ?_ rfl ⟨A, c, rfl, own_mono HOs.out (by omega), HGs.out⟩
  simp [results, Try.results71, go_sem, pk0, f0, f1, f2, f3, f4]
end
end Go.Proofs.Ytpoiejgoongllaa
