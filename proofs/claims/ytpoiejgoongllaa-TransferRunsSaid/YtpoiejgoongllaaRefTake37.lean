/-
  stockyardref37.Take.
-/
import Derived.Test.YtpoiejgoongllaaRefOf37
import Derived.Test.YtpoiejgoongllaaChan37
import Derived.Test.YtpoiejgoongllaaRefCar37
namespace Go.Proofs.Ytpoiejgoongllaa
set_option linter.unusedVariables false
set_option linter.unusedSimpArgs false
set_option linter.unnecessarySimpa false
open Go.RowKit
attribute [local go_sem ↓] Go.wp_at_zero Go.wp_at_succ

def RefTakeRes (L : RfL) (R : RfR) (r : Rcv) (kd : Int) (x : IdZ) (f : Int) (zs : List Int) (w : World) (e : Ending) (w' : World) : Prop :=
  ∃ L' R', e = .returned (.tuple #[rfV L' R', .bool (takeR r kd x f zs).2]) ∧ RfIs w' L' R' ∧ RefOf R' (takeR r kd x f zs).1 ∧ Grew w w' ∧ ∀ D, RfAt D L R → RfAt (DnD D w.heap.size) L' R'
theorem refTake_res {r r' : Rcv} {kd : Int} {x : IdZ} {f : Int} {zs : List Int} {w w' : World} {L' : RfL} {R' : RfR} {v : Value} {b : Bool} (hv : v = rfV L' R') (ht : takeR r kd x f zs = (r', b)) (h1 : RfIs w' L' R') (h2 : RefOf R' r') (h3 : Grew w w') {L : RfL} {R : RfR} (h4 : ∀ D, RfAt D L R → RfAt (DnD D w.heap.size) L' R') :
    RefTakeRes L R r kd x f zs w (.returned (.tuple #[v, .bool b])) w' := ⟨L', R', by rw [hv, ht], h1, by rw [ht]; exact h2, h3, h4⟩
theorem RfIs.setPre {w w' : World} {L : RfL} {R : RfR} {A : Option Addr} {c : Nat} {l : List ChZ} (h : RfIs w L R) (hg : Grew w w') (hp : Row w' w'.heap.size A (chsC l)) (hl : LieC w' w'.heap.size l) :
    RfIs w' { L with ap := A, cp := c } { R with pre := l } := { h.up hg with rpre := hp, lpre := hl }
theorem RfIs.done {w w' : World} {L : RfL} {R : RfR} {A B : Option Addr} {c d : Nat} {l m : List ChZ} (h : RfIs w L R) (hg : Grew w w') (hp : Row w' w'.heap.size A (chsC l)) (hl : LieC w' w'.heap.size l) (hq : Row w' w'.heap.size B (chsC m)) (hm : LieC w' w'.heap.size m) :
    RfIs w' { L with ag := B, cg := d, ap := A, cp := c } { R with got := m, pre := l } := { h.up hg with rgot := hq, lgot := hm, rpre := hp, lpre := hl }
theorem lieC_set {w : World} {B : Nat} {l : List ChZ} {k : Nat} {x : ChZ} (h : LieC w B l) (hx : Row w B x.p.A (x.p.zs.map (.int .u8))) : LieC w B (l.set k x) := fun c hc => by
  rcases List.mem_or_eq_of_mem_set hc with hc | rfl
  · exact h c hc
  · exact hx
theorem chsC_put {l : List ChZ} {k : Nat} {x : IdZ} (p : Part) (hk : k < l.length) (hx : l[k].id = x) : chsC (l.set k ⟨x, p⟩) = (chsC l).take (k * 3 + 2) ++ [.slice p.A p.zs.length p.cap] ++ (chsC l).drop (k * 3 + 2 + 1) := by
  obtain ⟨q, rfl⟩ : ∃ q, q = l[k] := ⟨_, rfl⟩
  have e1 : chsC l = chsC (l.take k) ++ (chC l[k] ++ chsC (l.drop (k + 1))) := by
    conv => lhs; rw [← List.take_append_drop k l, List.drop_eq_getElem_cons hk]
    rw [chsC_append]; rfl
  have hl : (chsC (l.take k)).length = k * 3 := by rw [chsC_len, List.length_take]; omega
  have e2 : chsC (l.set k ⟨x, p⟩) = chsC (l.take k) ++ (chC ⟨x, p⟩ ++ chsC (l.drop (k + 1))) := by
    rw [List.set_eq_take_append_cons_drop, if_pos hk, chsC_append]; rfl
  rw [e2, e1]
  rw [List.take_append, List.drop_append, hl, List.take_of_length_le (l := chsC (l.take k)) (by omega), List.drop_of_length_le (l := chsC (l.take k)) (by omega)]
  rw [show k * 3 + 2 - k * 3 = 2 by omega, show k * 3 + 2 + 1 - k * 3 = 3 by omega]
  subst hx
  simp [chC, Part.v]
theorem chsC_del (l : List ChZ) (i : Nat) : (chsC l).take (i * 3) ++ (chsC l).drop ((i + 1) * 3) = chsC (l.eraseIdx i) := by
  unfold chsC
  rw [flat_take (f := chC) (c := 3) (fun _ => rfl), flat_drop (f := chC) (c := 3) (fun _ => rfl), List.eraseIdx_eq_take_drop_succ, List.flatMap_append]

set_option maxRecDepth 100000 in
set_option maxHeartbeats 4000000 in
theorem refTake37_any (L : RfL) (R : RfR) (r : Rcv) (x : Pk) (w : World) (h : RfIs w L R) (hf : RefOf R r) (ok : RcOk r) (hr : Row w w.heap.size x.p.A (x.p.zs.map (.int .u8))) (hz : Byt x.p.zs) (hm : x.p.zs.length ≤ 9223372036854775807) :
    Calls Try.prog 38 #[rfV L R, .agg #[.int .i64 x.kind, .int .u64 x.id.1, .int .i64 x.id.2, .int .i64 x.frm, x.p.v]] w (RefTakeRes L R r x.kind x.id x.frm x.p.zs w) := by
  obtain ⟨kd, ⟨i1, i2⟩, fr, pA, pc, zs⟩ := x
  simp only [Part.v] at hr hz hm ⊢
  obtain ⟨lai, lci, lah, lch, lag, lcg, lap, lcp⟩ := L
  obtain ⟨hnh, hng, hnp⟩ := hf.lens ok
  have g0 := grew_alloc w (.cells #[.int .i64 R.n, .slice lai R.ids.length lci, .slice lah R.had.length lch, .slice lag R.got.length lcg, .slice lap R.pre.length lcp] 71)
  have kR := Blk.new w 71 #[.int .i64 R.n, .slice lai R.ids.length lci, .slice lah R.had.length lch, .slice lag R.got.length lcg, .slice lap R.pre.length lcp]
  have s0 : (w.alloc (.cells #[.int .i64 R.n, .slice lai R.ids.length lci, .slice lah R.had.length lch, .slice lag R.got.length lcg, .slice lap R.pre.length lcp] 71)).heap.size = w.heap.size + 1 := by simp
  generalize hwa : w.alloc (.cells #[.int .i64 R.n, .slice lai R.ids.length lci, .slice lah R.had.length lch, .slice lag R.got.length lcg, .slice lap R.pre.length lcp] 71) = wa at *
  have g1 := grew_alloc wa (.cells #[.int .i64 kd, .int .u64 i1, .int .i64 i2, .int .i64 fr, .slice pA zs.length pc] 55)
  have kP := Blk.new wa 55 #[.int .i64 kd, .int .u64 i1, .int .i64 i2, .int .i64 fr, .slice pA zs.length pc]
  have s1 : (wa.alloc (.cells #[.int .i64 kd, .int .u64 i1, .int .i64 i2, .int .i64 fr, .slice pA zs.length pc] 55)).heap.size = w.heap.size + 2 := by simp [s0]
  generalize hwb : wa.alloc (.cells #[.int .i64 kd, .int .u64 i1, .int .i64 i2, .int .i64 fr, .slice pA zs.length pc] 55) = wb at *
  have g2 := grew_alloc wb (.cells #[.int .i64 0, .slice none 0 0, .slice none 0 0, .slice none 0 0, .slice none 0 0] 71)
  have kZ := Blk.new wb 71 #[.int .i64 0, .slice none 0 0, .slice none 0 0, .slice none 0 0, .slice none 0 0]
  have s2 : (wb.alloc (.cells #[.int .i64 0, .slice none 0 0, .slice none 0 0, .slice none 0 0, .slice none 0 0] 71)).heap.size = w.heap.size + 3 := by simp [s1]
  rw [s0] at kP
  rw [s1] at kZ
  replace kR := (kR.of g1).of g2
  replace kP := kP.of g2
  have HG := Lib.hid (Grew.trans (Grew.trans g0 g1) g2)
  subst hwb
  subst hwa
  have HI0 := Lib.hid h
  have HRf := Lib.hid hf
  have HOk := Lib.hid ok
  have HB := Lib.hid hz
  have HRp := Lib.hid ((hr.up HG.out (Nat.le_refl _)).more HG.out.size)
  have HI := Lib.hid (h.up HG.out)
  have HZ := Lib.hid kZ
  clear h hf ok hz hr g0 g1 g2 s0 s1 kZ
  have r0 := (kR.cell 0).trans (show _ = some (.int .i64 R.n) from rfl)
  have r1 := (kR.cell 1).trans (show _ = some (.slice lai R.ids.length lci) from rfl)
  have r2 := (kR.cell 2).trans (show _ = some (.slice lah R.had.length lch) from rfl)
  have r3 := (kR.cell 3).trans (show _ = some (.slice lag R.got.length lcg) from rfl)
  have r4 := (kR.cell 4).trans (show _ = some (.slice lap R.pre.length lcp) from rfl)
  have p0 := (kP.cell 0).trans (show _ = some (.int .i64 kd) from rfl)
  have p1 := (kP.cell 1).trans (show _ = some (.int .u64 i1) from rfl)
  have p2 := (kP.cell 2).trans (show _ = some (.int .i64 i2) from rfl)
  have p3 := (kP.cell 3).trans (show _ = some (.int .i64 fr) from rfl)
  have p4 := (kP.cell 4).trans (show _ = some (.slice pA zs.length pc) from rfl)
  clear kR kP
  unfold rfV
  go_enter Try.func38, Try.ntmps38
  go_upto_region 1 with (fail)
  generalize ((w.alloc (.cells #[.int .i64 R.n, .slice lai R.ids.length lci, .slice lah R.had.length lch, .slice lag R.got.length lcg, .slice lap R.pre.length lcp] 71)).alloc (.cells #[.int .i64 kd, .int .u64 i1, .int .i64 i2, .int .i64 fr, .slice pA zs.length pc] 55)).alloc (.cells #[.int .i64 0, .slice none 0 0, .slice none 0 0, .slice none 0 0, .slice none 0 0] 71) = w1 at *
  by_cases hk2 : kd = 2
  case neg =>
    have HGW := Lib.hid (Grew.refl w1)
    have HTk : Hid (takeR r kd (i1, i2) fr zs = (r, false)) := Lib.hid (takeR_bad (by unfold takesP; rintro ⟨t1, _⟩; exact hk2 t1))
    have kz := HZ.out.of (show Grew w1 w1 from HGW.out)
    have fz0 := kz.frozen 0
    have fz1 := kz.frozen 1
    have fz2 := kz.frozen 2
    have fz3 := kz.frozen 3
    have fz4 := kz.frozen 4
    have q0 := (kz.cell 0).trans (show _ = some (.int .i64 0) from rfl)
    have q1 := (kz.cell 1).trans (show _ = some (.slice none 0 0) from rfl)
    have q2 := (kz.cell 2).trans (show _ = some (.slice none 0 0) from rfl)
    have q3 := (kz.cell 3).trans (show _ = some (.slice none 0 0) from rfl)
    have q4 := (kz.cell 4).trans (show _ = some (.slice none 0 0) from rfl)
    have HFz := Lib.hid (((((kz.set_ 0 (.int .i64 R.n)).set_ 1 (.slice lai R.ids.length lci)).set_ 2 (.slice lah R.had.length lch)).set_ 3 (.slice lag R.got.length lcg)).set_ 4 (.slice lap R.pre.length lcp))
    have hCs : Ch (At (w.heap.size + 2)) w1 (((((w1.setCell ⟨w.heap.size + 2, 0, none⟩ (.int .i64 R.n)).setCell ⟨w.heap.size + 2, 1, none⟩ (.slice lai R.ids.length lci)).setCell ⟨w.heap.size + 2, 2, none⟩ (.slice lah R.had.length lch)).setCell ⟨w.heap.size + 2, 3, none⟩ (.slice lag R.got.length lcg)).setCell ⟨w.heap.size + 2, 4, none⟩ (.slice lap R.pre.length lcp)) := ((((((Ch.refl (At (w.heap.size + 2)) w1).set_at 0 _).set_at 1 _).set_at 2 _).set_at 3 _).set_at 4 _)
    have gW := Grew.trans HG.out (show Grew w1 w1 from HGW.out)
    have HGz := Lib.hid (show Grew w _ from Below.trans (B := w.heap.size) gW (hCs.below gW.size (fun i hi => by have h : i = w.heap.size + 2 := hi; omega)))
    clear hCs kz gW
    go_wp2_with fail
    have f0 := (HFz.out.cell 0).trans (show _ = some (.int .i64 R.n) from rfl)
    have f1 := (HFz.out.cell 1).trans (show _ = some (.slice lai R.ids.length lci) from rfl)
    have f2 := (HFz.out.cell 2).trans (show _ = some (.slice lah R.had.length lch) from rfl)
    have f3 := (HFz.out.cell 3).trans (show _ = some (.slice lag R.got.length lcg) from rfl)
    have f4 := (HFz.out.cell 4).trans (show _ = some (.slice lap R.pre.length lcp) from rfl)
    refine bodyPost_ret (v := .tuple #[.agg #[.int .i64 R.n, .slice lai R.ids.length lci, .slice lah R.had.length lch, .slice lag R.got.length lcg, .slice lap R.pre.length lcp], .bool false]) ?_ rfl (refTake_res rfl HTk.out (HI0.out.up HGz.out) HRf.out HGz.out (fun D hD => hD.weak _))
    simp [results, Try.results38, go_sem, f0, f1, f2, f3, f4]
  subst hk2
  by_cases hl1 : zs.length < 1
  case pos =>
    have HGW := Lib.hid (Grew.refl w1)
    have hl1' : (zs.length : Int) < 1 := by omega
    have HTk : Hid (takeR r 2 (i1, i2) fr zs = (r, false)) := Lib.hid (takeR_bad (by unfold takesP; rintro ⟨_, t1, _⟩; omega))
    have kz := HZ.out.of (show Grew w1 w1 from HGW.out)
    have fz0 := kz.frozen 0
    have fz1 := kz.frozen 1
    have fz2 := kz.frozen 2
    have fz3 := kz.frozen 3
    have fz4 := kz.frozen 4
    have q0 := (kz.cell 0).trans (show _ = some (.int .i64 0) from rfl)
    have q1 := (kz.cell 1).trans (show _ = some (.slice none 0 0) from rfl)
    have q2 := (kz.cell 2).trans (show _ = some (.slice none 0 0) from rfl)
    have q3 := (kz.cell 3).trans (show _ = some (.slice none 0 0) from rfl)
    have q4 := (kz.cell 4).trans (show _ = some (.slice none 0 0) from rfl)
    have HFz := Lib.hid (((((kz.set_ 0 (.int .i64 R.n)).set_ 1 (.slice lai R.ids.length lci)).set_ 2 (.slice lah R.had.length lch)).set_ 3 (.slice lag R.got.length lcg)).set_ 4 (.slice lap R.pre.length lcp))
    have hCs : Ch (At (w.heap.size + 2)) w1 (((((w1.setCell ⟨w.heap.size + 2, 0, none⟩ (.int .i64 R.n)).setCell ⟨w.heap.size + 2, 1, none⟩ (.slice lai R.ids.length lci)).setCell ⟨w.heap.size + 2, 2, none⟩ (.slice lah R.had.length lch)).setCell ⟨w.heap.size + 2, 3, none⟩ (.slice lag R.got.length lcg)).setCell ⟨w.heap.size + 2, 4, none⟩ (.slice lap R.pre.length lcp)) := ((((((Ch.refl (At (w.heap.size + 2)) w1).set_at 0 _).set_at 1 _).set_at 2 _).set_at 3 _).set_at 4 _)
    have gW := Grew.trans HG.out (show Grew w1 w1 from HGW.out)
    have HGz := Lib.hid (show Grew w _ from Below.trans (B := w.heap.size) gW (hCs.below gW.size (fun i hi => by have h : i = w.heap.size + 2 := hi; omega)))
    clear hCs kz gW
    go_wp2_with fail
    have f0 := (HFz.out.cell 0).trans (show _ = some (.int .i64 R.n) from rfl)
    have f1 := (HFz.out.cell 1).trans (show _ = some (.slice lai R.ids.length lci) from rfl)
    have f2 := (HFz.out.cell 2).trans (show _ = some (.slice lah R.had.length lch) from rfl)
    have f3 := (HFz.out.cell 3).trans (show _ = some (.slice lag R.got.length lcg) from rfl)
    have f4 := (HFz.out.cell 4).trans (show _ = some (.slice lap R.pre.length lcp) from rfl)
    refine bodyPost_ret (v := .tuple #[.agg #[.int .i64 R.n, .slice lai R.ids.length lci, .slice lah R.had.length lch, .slice lag R.got.length lcg, .slice lap R.pre.length lcp], .bool false]) ?_ rfl (refTake_res rfl HTk.out (HI0.out.up HGz.out) HRf.out HGz.out (fun D hD => hD.weak _))
    simp [results, Try.results38, go_sem, f0, f1, f2, f3, f4]
  by_cases hl2 : 1024 < zs.length
  case pos =>
    have HGW := Lib.hid (Grew.refl w1)
    have hl1' : ¬ (zs.length : Int) < 1 := by omega
    have hl2' : (1024 : Int) < (zs.length : Int) := by omega
    have HTk : Hid (takeR r 2 (i1, i2) fr zs = (r, false)) := Lib.hid (takeR_bad (by unfold takesP; rintro ⟨_, _, t1, _⟩; omega))
    have kz := HZ.out.of (show Grew w1 w1 from HGW.out)
    have fz0 := kz.frozen 0
    have fz1 := kz.frozen 1
    have fz2 := kz.frozen 2
    have fz3 := kz.frozen 3
    have fz4 := kz.frozen 4
    have q0 := (kz.cell 0).trans (show _ = some (.int .i64 0) from rfl)
    have q1 := (kz.cell 1).trans (show _ = some (.slice none 0 0) from rfl)
    have q2 := (kz.cell 2).trans (show _ = some (.slice none 0 0) from rfl)
    have q3 := (kz.cell 3).trans (show _ = some (.slice none 0 0) from rfl)
    have q4 := (kz.cell 4).trans (show _ = some (.slice none 0 0) from rfl)
    have HFz := Lib.hid (((((kz.set_ 0 (.int .i64 R.n)).set_ 1 (.slice lai R.ids.length lci)).set_ 2 (.slice lah R.had.length lch)).set_ 3 (.slice lag R.got.length lcg)).set_ 4 (.slice lap R.pre.length lcp))
    have hCs : Ch (At (w.heap.size + 2)) w1 (((((w1.setCell ⟨w.heap.size + 2, 0, none⟩ (.int .i64 R.n)).setCell ⟨w.heap.size + 2, 1, none⟩ (.slice lai R.ids.length lci)).setCell ⟨w.heap.size + 2, 2, none⟩ (.slice lah R.had.length lch)).setCell ⟨w.heap.size + 2, 3, none⟩ (.slice lag R.got.length lcg)).setCell ⟨w.heap.size + 2, 4, none⟩ (.slice lap R.pre.length lcp)) := ((((((Ch.refl (At (w.heap.size + 2)) w1).set_at 0 _).set_at 1 _).set_at 2 _).set_at 3 _).set_at 4 _)
    have gW := Grew.trans HG.out (show Grew w1 w1 from HGW.out)
    have HGz := Lib.hid (show Grew w _ from Below.trans (B := w.heap.size) gW (hCs.below gW.size (fun i hi => by have h : i = w.heap.size + 2 := hi; omega)))
    clear hCs kz gW
    go_wp2_with fail
    have f0 := (HFz.out.cell 0).trans (show _ = some (.int .i64 R.n) from rfl)
    have f1 := (HFz.out.cell 1).trans (show _ = some (.slice lai R.ids.length lci) from rfl)
    have f2 := (HFz.out.cell 2).trans (show _ = some (.slice lah R.had.length lch) from rfl)
    have f3 := (HFz.out.cell 3).trans (show _ = some (.slice lag R.got.length lcg) from rfl)
    have f4 := (HFz.out.cell 4).trans (show _ = some (.slice lap R.pre.length lcp) from rfl)
    refine bodyPost_ret (v := .tuple #[.agg #[.int .i64 R.n, .slice lai R.ids.length lci, .slice lah R.had.length lch, .slice lag R.got.length lcg, .slice lap R.pre.length lcp], .bool false]) ?_ rfl (refTake_res rfl HTk.out (HI0.out.up HGz.out) HRf.out HGz.out (fun D hD => hD.weak _))
    simp [results, Try.results38, go_sem, f0, f1, f2, f3, f4]
  have hl1' : ¬ (zs.length : Int) < 1 := by omega
  have hl2' : ¬ (1024 : Int) < (zs.length : Int) := by omega
  have HLz : Hid (1 ≤ zs.length ∧ zs.length ≤ 1024) := Lib.hid (by omega)
  clear hm
  go_wp2_with fail
  clear hl1' hl2' hl1 hl2
  go_loopw [6] (fun i wr => ∃ k : Nat, k ≤ R.pre.length ∧ i = .int .i64 k ∧ Hid (∀ c ∈ R.pre.take k, c.id ≠ (i1, i2)) ∧ Hid (Grew w1 wr)) (fun i _ => R.pre.length - (intOf i).toNat)
  case atStart => exact ⟨0, Nat.zero_le _, rfl, Lib.hid (fun c hc => by simp at hc), Lib.hid (Grew.refl _)⟩
  case round =>
    obtain ⟨k, hk, rfl, HN, HGr⟩ := hrel
    replace r0 := cell_up HGr.out r0
    replace r1 := cell_up HGr.out r1
    replace r2 := cell_up HGr.out r2
    replace r3 := cell_up HGr.out r3
    replace r4 := cell_up HGr.out r4
    replace p0 := cell_up HGr.out p0
    replace p1 := cell_up HGr.out p1
    replace p2 := cell_up HGr.out p2
    replace p3 := cell_up HGr.out p3
    replace p4 := cell_up HGr.out p4
    by_cases hlt : k < R.pre.length
    · obtain ⟨ad, hA, hbl, d0, d1, d2⟩ := chs_at ((HI.out.rpre.up HGr.out (Nat.le_refl _))) hlt
      have hla := HI.out.lpre _ (List.getElem_mem hlt)
      have hpl := HRf.out.plen HOk.out (List.getElem_mem hlt)
      have hpf := HRf.out.pref _ (List.getElem_mem hlt)
      subst hA
      generalize hc : R.pre[k] = c at *
      have HCk := Lib.hid hc
      clear hc
      obtain ⟨⟨y1, y2⟩, ⟨yA, yc, yz⟩⟩ := c
      simp only at d0 d1 d2 hla hpl hpf
      have HYr := Lib.hid hla
      have HYb := Lib.hid hpl.1
      have hyl := hpl.2
      have HPf := Lib.hid hpf
      clear hla hpl hpf
      have ga := grew_alloc wr (.cells #[.int .u64 y1, .int .i64 y2, .slice yA yz.length yc] 64)
      have kX := Blk.new wr 64 #[.int .u64 y1, .int .i64 y2, .slice yA yz.length yc]
      have e0 := (kX.cell 0).trans (show _ = some (.int .u64 y1) from rfl)
      have e1 := (kX.cell 1).trans (show _ = some (.int .i64 y2) from rfl)
      have e2 := (kX.cell 2).trans (show _ = some (.slice yA yz.length yc) from rfl)
      have HGa := Lib.hid (Grew.trans HGr.out ga)
      have HXL : Hid (wr.heap.size < (wr.alloc (.cells #[.int .u64 y1, .int .i64 y2, .slice yA yz.length yc] 64)).heap.size) := Lib.hid kX.lt
      have HLr : Hid (w.heap.size + 3 ≤ wr.heap.size) := Lib.hid (by rw [← s2]; exact HGr.out.size)
      have r0' := cell_up ga r0
      have r1' := cell_up ga r1
      have r2' := cell_up ga r2
      have r3' := cell_up ga r3
      have r4' := cell_up ga r4
      have p0' := cell_up ga p0
      have p1' := cell_up ga p1
      have p2' := cell_up ga p2
      have p3' := cell_up ga p3
      have p4' := cell_up ga p4
      clear kX ga
      by_cases he : ((y1, y2) : IdZ) = (i1, i2)
      · obtain ⟨rfl, rfl⟩ := Prod.mk.inj he
        clear he
        go_upto_region 8 with (fail)
        generalize hwx : wr.alloc (.cells #[.int .u64 y1, .int .i64 y2, .slice yA yz.length yc] 64) = wx at *
        generalize hgx : wr.heap.size = gx at *
        clear hwx r0 r1 r2 r3 r4 p0 p1 p2 p3 p4 d0 d1 d2
        have HXm : Hid ((y1, y2) ∈ r.miss) := Lib.hid (by rw [← HRf.out.pre]; exact List.mem_map.2 ⟨_, List.getElem_mem hlt, by rw [HCk.out]⟩)
        have HGW := HGa
        by_cases hfr : fr = (yz.length : Int)
        case neg =>
          have HTk : Hid (takeR r 2 (y1, y2) fr zs = (r, false)) := Lib.hid (takeR_bad (by unfold takesP; rintro ⟨_, _, _, _, t1, _⟩; exact hfr (t1.trans (by rw [HPf.out]))))
          have kz := HZ.out.of (show Grew w1 wx from HGW.out)
          have fz0 := kz.frozen 0
          have fz1 := kz.frozen 1
          have fz2 := kz.frozen 2
          have fz3 := kz.frozen 3
          have fz4 := kz.frozen 4
          have q0 := (kz.cell 0).trans (show _ = some (.int .i64 0) from rfl)
          have q1 := (kz.cell 1).trans (show _ = some (.slice none 0 0) from rfl)
          have q2 := (kz.cell 2).trans (show _ = some (.slice none 0 0) from rfl)
          have q3 := (kz.cell 3).trans (show _ = some (.slice none 0 0) from rfl)
          have q4 := (kz.cell 4).trans (show _ = some (.slice none 0 0) from rfl)
          have HFz := Lib.hid (((((kz.set_ 0 (.int .i64 R.n)).set_ 1 (.slice lai R.ids.length lci)).set_ 2 (.slice lah R.had.length lch)).set_ 3 (.slice lag R.got.length lcg)).set_ 4 (.slice (some ad) R.pre.length lcp))
          have hCs : Ch (At (w.heap.size + 2)) wx (((((wx.setCell ⟨w.heap.size + 2, 0, none⟩ (.int .i64 R.n)).setCell ⟨w.heap.size + 2, 1, none⟩ (.slice lai R.ids.length lci)).setCell ⟨w.heap.size + 2, 2, none⟩ (.slice lah R.had.length lch)).setCell ⟨w.heap.size + 2, 3, none⟩ (.slice lag R.got.length lcg)).setCell ⟨w.heap.size + 2, 4, none⟩ (.slice (some ad) R.pre.length lcp)) := ((((((Ch.refl (At (w.heap.size + 2)) wx).set_at 0 _).set_at 1 _).set_at 2 _).set_at 3 _).set_at 4 _)
          have gW := Grew.trans HG.out (show Grew w1 wx from HGW.out)
          have HGz := Lib.hid (show Grew w _ from Below.trans (B := w.heap.size) gW (hCs.below gW.size (fun i hi => by have h : i = w.heap.size + 2 := hi; omega)))
          clear hCs kz gW
          go_wp2_with fail
          have f0 := (HFz.out.cell 0).trans (show _ = some (.int .i64 R.n) from rfl)
          have f1 := (HFz.out.cell 1).trans (show _ = some (.slice lai R.ids.length lci) from rfl)
          have f2 := (HFz.out.cell 2).trans (show _ = some (.slice lah R.had.length lch) from rfl)
          have f3 := (HFz.out.cell 3).trans (show _ = some (.slice lag R.got.length lcg) from rfl)
          have f4 := (HFz.out.cell 4).trans (show _ = some (.slice (some ad) R.pre.length lcp) from rfl)
          refine bodyPost_ret (v := .tuple #[.agg #[.int .i64 R.n, .slice lai R.ids.length lci, .slice lah R.had.length lch, .slice lag R.got.length lcg, .slice (some ad) R.pre.length lcp], .bool false]) ?_ rfl (refTake_res rfl HTk.out (HI0.out.up HGz.out) HRf.out HGz.out (fun D hD => hD.weak _))
          simp [results, Try.results38, go_sem, f0, f1, f2, f3, f4]
        subst hfr
        by_cases hsz : (yz.length : Int) + (zs.length : Int) ≤ y2
        case neg =>
          have hsz' : y2 < (yz.length : Int) + (zs.length : Int) := by omega
          have hws : IntKind.i64.wrap ((yz.length : Int) + (zs.length : Int)) = (yz.length : Int) + (zs.length : Int) := Go.IntWalk.i64_in _ (by have := HLz.out; omega)
          have HTk : Hid (takeR r 2 (y1, y2) (yz.length : Int) zs = (r, false)) := Lib.hid (takeR_bad (by unfold takesP; rintro ⟨_, _, _, _, _, t1⟩; rw [← HPf.out] at t1; exact hsz t1))
          have kz := HZ.out.of (show Grew w1 wx from HGW.out)
          have fz0 := kz.frozen 0
          have fz1 := kz.frozen 1
          have fz2 := kz.frozen 2
          have fz3 := kz.frozen 3
          have fz4 := kz.frozen 4
          have q0 := (kz.cell 0).trans (show _ = some (.int .i64 0) from rfl)
          have q1 := (kz.cell 1).trans (show _ = some (.slice none 0 0) from rfl)
          have q2 := (kz.cell 2).trans (show _ = some (.slice none 0 0) from rfl)
          have q3 := (kz.cell 3).trans (show _ = some (.slice none 0 0) from rfl)
          have q4 := (kz.cell 4).trans (show _ = some (.slice none 0 0) from rfl)
          have HFz := Lib.hid (((((kz.set_ 0 (.int .i64 R.n)).set_ 1 (.slice lai R.ids.length lci)).set_ 2 (.slice lah R.had.length lch)).set_ 3 (.slice lag R.got.length lcg)).set_ 4 (.slice (some ad) R.pre.length lcp))
          have hCs : Ch (At (w.heap.size + 2)) wx (((((wx.setCell ⟨w.heap.size + 2, 0, none⟩ (.int .i64 R.n)).setCell ⟨w.heap.size + 2, 1, none⟩ (.slice lai R.ids.length lci)).setCell ⟨w.heap.size + 2, 2, none⟩ (.slice lah R.had.length lch)).setCell ⟨w.heap.size + 2, 3, none⟩ (.slice lag R.got.length lcg)).setCell ⟨w.heap.size + 2, 4, none⟩ (.slice (some ad) R.pre.length lcp)) := ((((((Ch.refl (At (w.heap.size + 2)) wx).set_at 0 _).set_at 1 _).set_at 2 _).set_at 3 _).set_at 4 _)
          have gW := Grew.trans HG.out (show Grew w1 wx from HGW.out)
          have HGz := Lib.hid (show Grew w _ from Below.trans (B := w.heap.size) gW (hCs.below gW.size (fun i hi => by have h : i = w.heap.size + 2 := hi; omega)))
          clear hCs kz gW
          go_wp2_with fail
          have f0 := (HFz.out.cell 0).trans (show _ = some (.int .i64 R.n) from rfl)
          have f1 := (HFz.out.cell 1).trans (show _ = some (.slice lai R.ids.length lci) from rfl)
          have f2 := (HFz.out.cell 2).trans (show _ = some (.slice lah R.had.length lch) from rfl)
          have f3 := (HFz.out.cell 3).trans (show _ = some (.slice lag R.got.length lcg) from rfl)
          have f4 := (HFz.out.cell 4).trans (show _ = some (.slice (some ad) R.pre.length lcp) from rfl)
          refine bodyPost_ret (v := .tuple #[.agg #[.int .i64 R.n, .slice lai R.ids.length lci, .slice lah R.had.length lch, .slice lag R.got.length lcg, .slice (some ad) R.pre.length lcp], .bool false]) ?_ rfl (refTake_res rfl HTk.out (HI0.out.up HGz.out) HRf.out HGz.out (fun D hD => hD.weak _))
          simp [results, Try.results38, go_sem, f0, f1, f2, f3, f4]
        have hsz' : ¬ y2 < (yz.length : Int) + (zs.length : Int) := by omega
        have hws : IntKind.i64.wrap ((yz.length : Int) + (zs.length : Int)) = (yz.length : Int) + (zs.length : Int) := Go.IntWalk.i64_in _ (by have := HLz.out; omega)
        have HTP : Hid (takesP r 2 (y1, y2) (yz.length : Int) zs) := Lib.hid ⟨rfl, HLz.out.1, HLz.out.2, HXm.out, by rw [← HPf.out], by rw [← HPf.out]; exact hsz⟩
        have HSz := Lib.hid hsz
        go_upto_region 10 with (fail)
        clear hsz hsz' hws
        refine wp_region_g 6 (by kernel_rfl) ?_
        refine AllC.head 0 2 (fuel := 5) (by first | exact fun h k => Grew.trans h k | exact fun h k => cls_grew h k) (grew_drew _) (by rfl) (by kernel_rfl) ?_
        simp only [List.take_succ_cons, List.take_zero, List.drop_succ_cons, List.drop_zero]
        repeat (first
          | (refine HeadC.val (by rfl) ?_
             apply Exists.intro
             refine ⟨fun w' hw' => ?_, ?_⟩
             · (have hf_0 := cell_up hw' e2; (go_simp) <;> (try go_ints) <;> with_reducible rfl)
             try simp only [Act.put, List.setIfInBounds_toArray, List.set_cons_zero, List.set_cons_succ])
          | (refine HeadC.shut (by rfl) ?_
             try simp only [Act.put, List.setIfInBounds_toArray, List.set_cons_zero, List.set_cons_succ]))
        refine HeadC.nil ?_
        refine AllC.head 3 2 (fuel := 3) (by first | exact fun h k => Grew.trans h k | exact fun h k => cls_grew h k) (grew_drew _) (by rfl) (by kernel_rfl) ?_
        simp only [List.take_succ_cons, List.take_zero, List.drop_succ_cons, List.drop_zero]
        repeat (first
          | (refine HeadC.val (by rfl) ?_
             apply Exists.intro
             refine ⟨fun w' hw' => ?_, ?_⟩
             · (have hf_0 := cell_up hw' p4'; (go_simp) <;> (try go_ints) <;> with_reducible rfl)
             try simp only [Act.put, List.setIfInBounds_toArray, List.set_cons_zero, List.set_cons_succ])
          | (refine HeadC.shut (by rfl) ?_
             try simp only [Act.put, List.setIfInBounds_toArray, List.set_cons_zero, List.set_cons_succ]))
        refine HeadC.nil ?_
        refine AllC.one 2 (by kernel_rfl) rfl ?_
        intro wg hg K hK
        have hg1 : Grew wx wg := (grew_drew wx).trans hg
        have hgy : Grew w1 wg := HGW.out.trans hg1
        refine step_append_row rfl (.const (.slice none 0 0)) (.tmp 64) rfl wg.heap.size elem_u8 (by rfl) (World.ownsRow_nil _ _ _ _) _ (by rfl) (by simp) ((HYr.out.up hgy (Nat.le_refl _))) (ones_u8 _) (by unfold maxLen; omega) (by omega) (Nat.le_refl _) ?_
        intro A2 k2 w2 hown2 hg2 hv2
        rw [List.nil_append] at hown2
        have hG2 := hg1.trans (grewA_one hg2)
        have HLg : Hid (w.heap.size + 3 ≤ wg.heap.size) := Lib.hid (by rw [← s2]; exact hgy.size)
        refine hK.out _ _ hG2 ?_
        clear hK K
        try simp only [Act.put, List.setIfInBounds_toArray, List.set_cons_zero, List.set_cons_succ]
        refine AllC.one 5 (by kernel_rfl) rfl ?_
        intro wh hh K hK
        have hownh := own_below hown2 hh
        have hgz : Grew w1 wh := HGW.out.trans (hG2.trans hh)
        refine step_append_row rfl (.tmp 65) (.tmp 67) rfl wg.heap.size elem_u8 (by rfl) hownh _ (by rfl) (by simp) ((HRp.out.up hgz (Nat.le_refl _))) (ones_u8 _) (by have := HLz.out; unfold maxLen; omega) (by have := HLz.out; omega) (Nat.le_trans (grewA_one hg2).size hh.size) ?_
        intro A3 k3 w3 hown3 hg3 hv3
        have hG3 : Grew wx w3 := hg1.trans (grewA_three hg2 hv2 hh hg3)
        refine hK.out _ _ hG3 ?_
        have HBz : Hid (Byt (yz ++ zs)) := Lib.hid (fun z hz => (List.mem_append.1 hz).elim (HYb.out z) (HB.out z))
        have hbl2 : 0 + yz.length + zs.length = (yz ++ zs).length := by rw [List.length_append]; omega
        rw [← List.map_append] at hown3
        rw [hbl2] at hown3 ⊢
        have HLb : Hid ((yz ++ zs).length ≤ 9216 ∧ ((yz ++ zs).length : Int) ≤ y2 ∧ 0 < (yz ++ zs).length) := Lib.hid (by have h1 := HLz.out; have h2 := HSz.out; rw [List.length_append]; omega)
        have HO3 := Lib.hid (own_mono hown3 HLg.out)
        clear hK K hg1 hgy hG2 hownh hgz hg hh hg2 hv2 hg3 hown2 hown3 HLg hbl2
        have HPb := Lib.hid (rfl : yz ++ zs = yz ++ zs)
        generalize hbz : yz ++ zs = bz at *
        have HBe := Lib.hid hbz
        clear HPb hbz
        try simp only [Act.put, List.setIfInBounds_toArray, List.set_cons_zero, List.set_cons_succ]
        refine AllC.tail 6 (by rfl) (by kernel_rfl) ?_
        intro wt hwt
        simp only [List.drop_succ_cons, List.drop_zero]
        replace HO3 := Lib.hid (own_below HO3.out hwt)
        have hgt := hG3.trans hwt
        clear hG3 hwt hv3
        have hszx := hgt.size
        replace HGW := Lib.hid (HGW.out.trans hgt)
        have HRt := Lib.hid (HI.out.up HGW.out)
        replace r0' := cell_up hgt r0'
        replace r1' := cell_up hgt r1'
        replace r2' := cell_up hgt r2'
        replace r3' := cell_up hgt r3'
        replace r4' := cell_up hgt r4'
        replace e0 := cell_up hgt e0
        replace e1 := cell_up hgt e1
        replace e2 := cell_up hgt e2
        clear hgt p0' p1' p2' p3' p4'
        have hbase : w.heap.size + 3 ≤ wt.heap.size := by rw [← s2]; exact HGW.out.size
        go_upto_region 12 with (at_builtin; refine wpList_append_row rfl (.const (.slice none 0 0)) (.tmp 70) rfl wt.heap.size elem_chunk (by rfl) (World.ownsRow_nil _ _ _ _) _ (by rfl) (chsC_len _) HRt.out.rpre (ones_chs _) (by unfold maxLen; omega) (by omega) (Nat.le_refl _) ?_; intro A5 c5 w5 hown5 hg5 hv5)
        rw [List.nil_append, Nat.zero_add] at hown5
        rw [Nat.zero_add] at hv5
        obtain ⟨g5, rfl, hgb1, hgb2⟩ := own_some hown5 (Nat.lt_of_le_of_lt (Nat.zero_le _) hlt)
        have hG5 : Grew wt w5 := grewA_one hg5
        have HO3t := HO3
        replace HO3 := Lib.hid (own_below HO3.out hG5)
        replace r0' := cell_up hG5 r0'
        replace r1' := cell_up hG5 r1'
        replace r2' := cell_up hG5 r2'
        replace r3' := cell_up hG5 r3'
        replace r4' := cell_up hG5 r4'
        replace e0 := cell_up hG5 e0
        replace e1 := cell_up hG5 e1
        replace e2 := cell_up hG5 e2
        have HGWt := HGW
        replace HGW := Lib.hid (HGW.out.trans hG5)
        have HNb : Hid (∀ i, (Value.slice A3 bz.length k3).ownBlock = some i → i ≠ g5) := Lib.hid (fun i hi => by have := (HO3t.out.lt i hi).2; omega)
        have HO5 := Lib.hid (own_mono hown5 hbase)
        have hg5b : w.heap.size + 3 ≤ g5 := Nat.le_trans hbase hgb1
        have hg51 : w1.heap.size ≤ g5 := Nat.le_trans HGWt.out.size hgb1
        have hgx5 : gx < g5 := by have h1 := HXL.out; have h2 := HGWt.out; have h3 : wx.heap.size ≤ wt.heap.size := hszx; omega
        clear hg5 hv5 hown5 hbase hG5 HRt HO3t HGWt
        have HCe : Hid (R.pre[k].id = (y1, y2)) := Lib.hid (by rw [HCk.out])
        have hc5 : R.pre.length ≤ c5 := (own_cap HO5.out).1
        have hk5 : (k : Int) < (R.pre.length : Int) := by omega
        have hf5 := HO5.out.frozenAt (k * 3 + 2)
        obtain ⟨ad5, hA5, _, t0, t1, t2⟩ := chs_at (own_row HO5.out) hlt
        obtain rfl : (⟨g5, 0, none⟩ : Addr) = ad5 := by injection hA5
        simp only [Addr.add_lit, Nat.zero_add, HCk.out] at t0 t1 t2
        clear hA5
        by_cases hmo : (bz.length : Int) < y2
        · have hs : (w5.setCell ⟨g5, k * 3 + 2, none⟩ (.slice A3 bz.length k3)).ownsRow (w.heap.size + 3) 64 3 (.slice (some ⟨g5, 0, none⟩) R.pre.length c5) R.pre.length (chsC (R.pre.set k ⟨(y1, y2), ⟨A3, k3, bz⟩⟩)) ∧ Ch (At g5) w5 (w5.setCell ⟨g5, k * 3 + 2, none⟩ (.slice A3 bz.length k3)) := by
            have h9 := own_puts [(.slice A3 bz.length k3)] (k * 3 + 2) HO5.out (by rw [chsC_len]; simp only [List.length_cons, List.length_nil]; omega)
            exact ⟨by rw [chsC_put ⟨A3, k3, bz⟩ hlt HCe.out]; exact h9.1, h9.2⟩
          replace HO5 := Lib.hid hs.1
          have hgs := hs.2
          clear hs
          replace HO3 := Lib.hid (own_ch HO3.out hgs (fun i hi h => HNb.out i hi h))
          replace HGW : Hid (Grew w1 (w5.setCell ⟨g5, k * 3 + 2, none⟩ (.slice A3 bz.length k3))) := Lib.hid (Below.trans (B := w1.heap.size) HGW.out (hgs.below HGW.out.size (fun i hi => by have h : i = g5 := hi; omega)))
          replace r0' := hgs.cell r0' (fun h => by have h : w.heap.size = g5 := h; omega)
          replace r1' := hgs.cell r1' (fun h => by have h : w.heap.size = g5 := h; omega)
          replace r2' := hgs.cell r2' (fun h => by have h : w.heap.size = g5 := h; omega)
          replace r3' := hgs.cell r3' (fun h => by have h : w.heap.size = g5 := h; omega)
          replace r4' := hgs.cell r4' (fun h => by have h : w.heap.size = g5 := h; omega)
          clear hgs
          have HTk : Hid (takeR r 2 (y1, y2) (yz.length : Int) zs = ({ r with pref := updF r.pref (y1, y2) bz }, true)) := Lib.hid (by
            have h9 := takeR_more HTP.out (by rw [← HPf.out, HBe.out]; exact hmo)
            rw [← HPf.out, HBe.out] at h9
            exact h9)
          go_upto_region 14 with (fail)
          generalize w5.setCell ⟨g5, k * 3 + 2, none⟩ (.slice A3 bz.length k3) = w6 at *
          clear e0 e1 e2 t0 t1 t2 hf5
          have kz := HZ.out.of (show Grew w1 w6 from HGW.out)
          have fz0 := kz.frozen 0
          have fz1 := kz.frozen 1
          have fz2 := kz.frozen 2
          have fz3 := kz.frozen 3
          have fz4 := kz.frozen 4
          have q0 := (kz.cell 0).trans (show _ = some (.int .i64 0) from rfl)
          have q1 := (kz.cell 1).trans (show _ = some (.slice none 0 0) from rfl)
          have q2 := (kz.cell 2).trans (show _ = some (.slice none 0 0) from rfl)
          have q3 := (kz.cell 3).trans (show _ = some (.slice none 0 0) from rfl)
          have q4 := (kz.cell 4).trans (show _ = some (.slice none 0 0) from rfl)
          have HFz := Lib.hid (((((kz.set_ 0 (.int .i64 R.n)).set_ 1 (.slice lai R.ids.length lci)).set_ 2 (.slice lah R.had.length lch)).set_ 3 (.slice lag R.got.length lcg)).set_ 4 (.slice (some ⟨g5, 0, none⟩) R.pre.length c5))
          have hCs : Ch (At (w.heap.size + 2)) w6 (((((w6.setCell ⟨w.heap.size + 2, 0, none⟩ (.int .i64 R.n)).setCell ⟨w.heap.size + 2, 1, none⟩ (.slice lai R.ids.length lci)).setCell ⟨w.heap.size + 2, 2, none⟩ (.slice lah R.had.length lch)).setCell ⟨w.heap.size + 2, 3, none⟩ (.slice lag R.got.length lcg)).setCell ⟨w.heap.size + 2, 4, none⟩ (.slice (some ⟨g5, 0, none⟩) R.pre.length c5)) := ((((((Ch.refl (At (w.heap.size + 2)) w6).set_at 0 _).set_at 1 _).set_at 2 _).set_at 3 _).set_at 4 _)
          have gW := Grew.trans HG.out (show Grew w1 w6 from HGW.out)
          have HGz := Lib.hid (show Grew w _ from Below.trans (B := w.heap.size) gW (hCs.below gW.size (fun i hi => by have h : i = w.heap.size + 2 := hi; omega)))
          replace HO3 := Lib.hid (own_ch HO3.out hCs (fun i hi h => by have h1 := own_lt HO3.out i hi; have h2 : i = w.heap.size + 2 := h; omega))
          replace HO5 := Lib.hid (own_ch HO5.out hCs (fun i hi h => by have h1 := own_lt HO5.out i hi; have h2 : i = w.heap.size + 2 := h; omega))
          clear hCs kz gW
          go_wp2_with fail
          have f0 := (HFz.out.cell 0).trans (show _ = some (.int .i64 R.n) from rfl)
          have f1 := (HFz.out.cell 1).trans (show _ = some (.slice lai R.ids.length lci) from rfl)
          have f2 := (HFz.out.cell 2).trans (show _ = some (.slice lah R.had.length lch) from rfl)
          have f3 := (HFz.out.cell 3).trans (show _ = some (.slice lag R.got.length lcg) from rfl)
          have f4 := (HFz.out.cell 4).trans (show _ = some (.slice (some ⟨g5, 0, none⟩) R.pre.length c5) from rfl)
          refine bodyPost_ret (v := .tuple #[.agg #[.int .i64 R.n, .slice lai R.ids.length lci, .slice lah R.had.length lch, .slice lag R.got.length lcg, .slice (some ⟨g5, 0, none⟩) R.pre.length c5], .bool true]) ?_ rfl (refTake_res (L' := ⟨lai, lci, lah, lch, lag, lcg, some ⟨g5, 0, none⟩, c5⟩) (R' := { R with pre := R.pre.set k ⟨(y1, y2), ⟨A3, k3, bz⟩⟩ }) (by simp [rfV, List.length_set]) HTk.out (HI0.out.setPre HGz.out (own_row HO5.out) (lieC_set (HI0.out.up HGz.out).lpre (own_row HO3.out))) (HRf.out.setPre HOk.out ⟨A3, k3, bz⟩ hlt HCe.out) HGz.out (fun D hD => RfAt.setPre hD (own_at HO5.out (by omega)) (fun _ => own_at HO3.out (by omega)) (own_cap HO3.out).1))
          simp [results, Try.results38, go_sem, f0, f1, f2, f3, f4]
        have hmo' : y2 ≤ (bz.length : Int) := by omega
        have HMo := Lib.hid hmo
        clear hmo
        have HOf := Lib.hid (fun W (h : Grew w5 W) => refOf_any A3 k3 w5.heap.size bz W ((own_row HO3.out).up h (Nat.le_refl _)) h.size HBz.out (by have := HLb.out; omega))
        by_cases hid : idOf bz = (y1, y2)
        case neg =>
          have HId := Lib.hid hid
          rcases id_ne hid with hne | ⟨h0, hne⟩
          · clear hid
            go_upto_region 15 with (fail)
            refine wp_region_g 4 (by kernel_rfl) ?_
            refine AllC.head 0 4 (fuel := 1) (by first | exact fun h k => Grew.trans h k | exact fun h k => cls_grew h k) (grew_drew _) (by rfl) (by kernel_rfl) ?_
            simp only [List.take_succ_cons, List.take_zero, List.drop_succ_cons, List.drop_zero]
            repeat (first
              | (refine HeadC.val (by rfl) ?_
                 apply Exists.intro
                 refine ⟨fun w' hw' => ?_, ?_⟩
                 · (have hf_0 := cell_up hw' e0; have hf_1 := cell_up hw' e1; (go_simp) <;> (try go_ints) <;> with_reducible rfl)
                 try simp only [Act.put, List.setIfInBounds_toArray, List.set_cons_zero, List.set_cons_succ])
              | (refine HeadC.call (by rfl) ?_
                 apply Exists.intro; apply Exists.intro
                 refine ⟨fun w' hw' => ?_, ?_⟩
                 · (have hf_0 := cell_up hw' e0; have hf_1 := cell_up hw' e1; (go_simp) <;> first | (refine ⟨?_, ?_⟩ <;> with_reducible rfl) | with_reducible rfl)
                 apply Exists.intro
                 refine ⟨fun w' hw' => ?_, ?_⟩
                 · (first | exact HOf.out _ hw')
                 try simp only [Act.put, List.setIfInBounds_toArray, List.set_cons_zero, List.set_cons_succ])
              | (refine HeadC.shut (by rfl) ?_
                 try simp only [Act.put, List.setIfInBounds_toArray, List.set_cons_zero, List.set_cons_succ]))
            refine HeadC.nil ?_
            refine AllC.tail 4 (by rfl) (by kernel_rfl) ?_
            intro wt hwt
            simp only [List.drop_succ_cons, List.drop_zero]
            have hgt := (grew_drew _).trans hwt
            clear hwt HOf
            replace HO3 := Lib.hid (own_below HO3.out hgt)
            replace HO5 := Lib.hid (own_below HO5.out hgt)
            replace HGW := Lib.hid (HGW.out.trans hgt)
            replace r0' := cell_up hgt r0'
            replace r1' := cell_up hgt r1'
            replace r2' := cell_up hgt r2'
            replace r3' := cell_up hgt r3'
            replace r4' := cell_up hgt r4'
            replace e0 := cell_up hgt e0
            replace e1 := cell_up hgt e1
            replace e2 := cell_up hgt e2
            clear hgt t0 t1 t2 hf5

            have hf5 := HO5.out.frozenAt (k * 3 + 2)
            obtain ⟨ad5, hA5, _, t0, t1, t2⟩ := chs_at (own_row HO5.out) hlt
            obtain rfl : (⟨g5, 0, none⟩ : Addr) = ad5 := by injection hA5
            simp only [Addr.add_lit, Nat.zero_add, HCk.out] at t0 t1 t2
            clear hA5
            have hs : (wt.setCell ⟨g5, k * 3 + 2, none⟩ (.slice none 0 0)).ownsRow (w.heap.size + 3) 64 3 (.slice (some ⟨g5, 0, none⟩) R.pre.length c5) R.pre.length (chsC (R.pre.set k ⟨(y1, y2), ⟨none, 0, []⟩⟩)) ∧ Ch (At g5) wt (wt.setCell ⟨g5, k * 3 + 2, none⟩ (.slice none 0 0)) := by
              have h9 := own_puts [(.slice none 0 0)] (k * 3 + 2) HO5.out (by rw [chsC_len]; simp only [List.length_cons, List.length_nil]; omega)
              exact ⟨by rw [chsC_put ⟨none, 0, []⟩ hlt HCe.out]; exact h9.1, h9.2⟩
            replace HO5 := Lib.hid hs.1
            have hgs := hs.2
            clear hs
            replace HO3 := Lib.hid (own_ch HO3.out hgs (fun i hi h => HNb.out i hi h))
            replace HGW : Hid (Grew w1 (wt.setCell ⟨g5, k * 3 + 2, none⟩ (.slice none 0 0))) := Lib.hid (Below.trans (B := w1.heap.size) HGW.out (hgs.below HGW.out.size (fun i hi => by have h : i = g5 := hi; omega)))
            replace r0' := hgs.cell r0' (fun h => by have h : w.heap.size = g5 := h; omega)
            replace r1' := hgs.cell r1' (fun h => by have h : w.heap.size = g5 := h; omega)
            replace r2' := hgs.cell r2' (fun h => by have h : w.heap.size = g5 := h; omega)
            replace r3' := hgs.cell r3' (fun h => by have h : w.heap.size = g5 := h; omega)
            replace r4' := hgs.cell r4' (fun h => by have h : w.heap.size = g5 := h; omega)
            clear hgs
            have HTk : Hid (takeR r 2 (y1, y2) (yz.length : Int) zs = ({ r with pref := updF r.pref (y1, y2) [] }, false)) := Lib.hid (by
              have h9 := takeR_wrong HTP.out (by rw [← HPf.out, HBe.out]; exact HMo.out) (by rw [← HPf.out, HBe.out]; exact HId.out)
              exact h9)
            go_upto_region 17 with (fail)
            generalize wt.setCell ⟨g5, k * 3 + 2, none⟩ (.slice none 0 0) = w6 at *
            clear e0 e1 e2 t0 t1 t2 hf5
            have kz := HZ.out.of (show Grew w1 w6 from HGW.out)
            have fz0 := kz.frozen 0
            have fz1 := kz.frozen 1
            have fz2 := kz.frozen 2
            have fz3 := kz.frozen 3
            have fz4 := kz.frozen 4
            have q0 := (kz.cell 0).trans (show _ = some (.int .i64 0) from rfl)
            have q1 := (kz.cell 1).trans (show _ = some (.slice none 0 0) from rfl)
            have q2 := (kz.cell 2).trans (show _ = some (.slice none 0 0) from rfl)
            have q3 := (kz.cell 3).trans (show _ = some (.slice none 0 0) from rfl)
            have q4 := (kz.cell 4).trans (show _ = some (.slice none 0 0) from rfl)
            have HFz := Lib.hid (((((kz.set_ 0 (.int .i64 R.n)).set_ 1 (.slice lai R.ids.length lci)).set_ 2 (.slice lah R.had.length lch)).set_ 3 (.slice lag R.got.length lcg)).set_ 4 (.slice (some ⟨g5, 0, none⟩) R.pre.length c5))
            have hCs : Ch (At (w.heap.size + 2)) w6 (((((w6.setCell ⟨w.heap.size + 2, 0, none⟩ (.int .i64 R.n)).setCell ⟨w.heap.size + 2, 1, none⟩ (.slice lai R.ids.length lci)).setCell ⟨w.heap.size + 2, 2, none⟩ (.slice lah R.had.length lch)).setCell ⟨w.heap.size + 2, 3, none⟩ (.slice lag R.got.length lcg)).setCell ⟨w.heap.size + 2, 4, none⟩ (.slice (some ⟨g5, 0, none⟩) R.pre.length c5)) := ((((((Ch.refl (At (w.heap.size + 2)) w6).set_at 0 _).set_at 1 _).set_at 2 _).set_at 3 _).set_at 4 _)
            have gW := Grew.trans HG.out (show Grew w1 w6 from HGW.out)
            have HGz := Lib.hid (show Grew w _ from Below.trans (B := w.heap.size) gW (hCs.below gW.size (fun i hi => by have h : i = w.heap.size + 2 := hi; omega)))
            replace HO3 := Lib.hid (own_ch HO3.out hCs (fun i hi h => by have h1 := own_lt HO3.out i hi; have h2 : i = w.heap.size + 2 := h; omega))
            replace HO5 := Lib.hid (own_ch HO5.out hCs (fun i hi h => by have h1 := own_lt HO5.out i hi; have h2 : i = w.heap.size + 2 := h; omega))
            clear hCs kz gW
            go_wp2_with fail
            have f0 := (HFz.out.cell 0).trans (show _ = some (.int .i64 R.n) from rfl)
            have f1 := (HFz.out.cell 1).trans (show _ = some (.slice lai R.ids.length lci) from rfl)
            have f2 := (HFz.out.cell 2).trans (show _ = some (.slice lah R.had.length lch) from rfl)
            have f3 := (HFz.out.cell 3).trans (show _ = some (.slice lag R.got.length lcg) from rfl)
            have f4 := (HFz.out.cell 4).trans (show _ = some (.slice (some ⟨g5, 0, none⟩) R.pre.length c5) from rfl)
            refine bodyPost_ret (v := .tuple #[.agg #[.int .i64 R.n, .slice lai R.ids.length lci, .slice lah R.had.length lch, .slice lag R.got.length lcg, .slice (some ⟨g5, 0, none⟩) R.pre.length c5], .bool false]) ?_ rfl (refTake_res (L' := ⟨lai, lci, lah, lch, lag, lcg, some ⟨g5, 0, none⟩, c5⟩) (R' := { R with pre := R.pre.set k ⟨(y1, y2), ⟨none, 0, []⟩⟩ }) (by simp [rfV, List.length_set]) HTk.out (HI0.out.setPre HGz.out (own_row HO5.out) (lieC_set (HI0.out.up HGz.out).lpre Row.nil)) (HRf.out.setPre HOk.out ⟨none, 0, []⟩ hlt HCe.out) HGz.out (fun D hD => RfAt.setPre hD (own_at HO5.out (by omega)) (fun h => absurd rfl h) (Nat.le_refl _)))
            simp [results, Try.results38, go_sem, f0, f1, f2, f3, f4]
          · clear hid
            rw [h0] at HOf
            clear h0
            go_upto_region 15 with (fail)
            refine wp_region_g 4 (by kernel_rfl) ?_
            refine AllC.head 0 4 (fuel := 1) (by first | exact fun h k => Grew.trans h k | exact fun h k => cls_grew h k) (grew_drew _) (by rfl) (by kernel_rfl) ?_
            simp only [List.take_succ_cons, List.take_zero, List.drop_succ_cons, List.drop_zero]
            repeat (first
              | (refine HeadC.val (by rfl) ?_
                 apply Exists.intro
                 refine ⟨fun w' hw' => ?_, ?_⟩
                 · (have hf_0 := cell_up hw' e0; have hf_1 := cell_up hw' e1; (go_simp) <;> (try go_ints) <;> with_reducible rfl)
                 try simp only [Act.put, List.setIfInBounds_toArray, List.set_cons_zero, List.set_cons_succ])
              | (refine HeadC.call (by rfl) ?_
                 apply Exists.intro; apply Exists.intro
                 refine ⟨fun w' hw' => ?_, ?_⟩
                 · (have hf_0 := cell_up hw' e0; have hf_1 := cell_up hw' e1; (go_simp) <;> first | (refine ⟨?_, ?_⟩ <;> with_reducible rfl) | with_reducible rfl)
                 apply Exists.intro
                 refine ⟨fun w' hw' => ?_, ?_⟩
                 · (first | exact HOf.out _ hw')
                 try simp only [Act.put, List.setIfInBounds_toArray, List.set_cons_zero, List.set_cons_succ])
              | (refine HeadC.shut (by rfl) ?_
                 try simp only [Act.put, List.setIfInBounds_toArray, List.set_cons_zero, List.set_cons_succ]))
            refine HeadC.nil ?_
            refine AllC.tail 4 (by rfl) (by kernel_rfl) ?_
            intro wt hwt
            simp only [List.drop_succ_cons, List.drop_zero]
            have hgt := (grew_drew _).trans hwt
            clear hwt HOf
            replace HO3 := Lib.hid (own_below HO3.out hgt)
            replace HO5 := Lib.hid (own_below HO5.out hgt)
            replace HGW := Lib.hid (HGW.out.trans hgt)
            replace r0' := cell_up hgt r0'
            replace r1' := cell_up hgt r1'
            replace r2' := cell_up hgt r2'
            replace r3' := cell_up hgt r3'
            replace r4' := cell_up hgt r4'
            replace e0 := cell_up hgt e0
            replace e1 := cell_up hgt e1
            replace e2 := cell_up hgt e2
            clear hgt t0 t1 t2 hf5

            have hf5 := HO5.out.frozenAt (k * 3 + 2)
            obtain ⟨ad5, hA5, _, t0, t1, t2⟩ := chs_at (own_row HO5.out) hlt
            obtain rfl : (⟨g5, 0, none⟩ : Addr) = ad5 := by injection hA5
            simp only [Addr.add_lit, Nat.zero_add, HCk.out] at t0 t1 t2
            clear hA5
            have hs : (wt.setCell ⟨g5, k * 3 + 2, none⟩ (.slice none 0 0)).ownsRow (w.heap.size + 3) 64 3 (.slice (some ⟨g5, 0, none⟩) R.pre.length c5) R.pre.length (chsC (R.pre.set k ⟨(y1, y2), ⟨none, 0, []⟩⟩)) ∧ Ch (At g5) wt (wt.setCell ⟨g5, k * 3 + 2, none⟩ (.slice none 0 0)) := by
              have h9 := own_puts [(.slice none 0 0)] (k * 3 + 2) HO5.out (by rw [chsC_len]; simp only [List.length_cons, List.length_nil]; omega)
              exact ⟨by rw [chsC_put ⟨none, 0, []⟩ hlt HCe.out]; exact h9.1, h9.2⟩
            replace HO5 := Lib.hid hs.1
            have hgs := hs.2
            clear hs
            replace HO3 := Lib.hid (own_ch HO3.out hgs (fun i hi h => HNb.out i hi h))
            replace HGW : Hid (Grew w1 (wt.setCell ⟨g5, k * 3 + 2, none⟩ (.slice none 0 0))) := Lib.hid (Below.trans (B := w1.heap.size) HGW.out (hgs.below HGW.out.size (fun i hi => by have h : i = g5 := hi; omega)))
            replace r0' := hgs.cell r0' (fun h => by have h : w.heap.size = g5 := h; omega)
            replace r1' := hgs.cell r1' (fun h => by have h : w.heap.size = g5 := h; omega)
            replace r2' := hgs.cell r2' (fun h => by have h : w.heap.size = g5 := h; omega)
            replace r3' := hgs.cell r3' (fun h => by have h : w.heap.size = g5 := h; omega)
            replace r4' := hgs.cell r4' (fun h => by have h : w.heap.size = g5 := h; omega)
            clear hgs
            have HTk : Hid (takeR r 2 (y1, y2) (yz.length : Int) zs = ({ r with pref := updF r.pref (y1, y2) [] }, false)) := Lib.hid (by
              have h9 := takeR_wrong HTP.out (by rw [← HPf.out, HBe.out]; exact HMo.out) (by rw [← HPf.out, HBe.out]; exact HId.out)
              exact h9)
            go_upto_region 17 with (fail)
            generalize wt.setCell ⟨g5, k * 3 + 2, none⟩ (.slice none 0 0) = w6 at *
            clear e0 e1 e2 t0 t1 t2 hf5
            have kz := HZ.out.of (show Grew w1 w6 from HGW.out)
            have fz0 := kz.frozen 0
            have fz1 := kz.frozen 1
            have fz2 := kz.frozen 2
            have fz3 := kz.frozen 3
            have fz4 := kz.frozen 4
            have q0 := (kz.cell 0).trans (show _ = some (.int .i64 0) from rfl)
            have q1 := (kz.cell 1).trans (show _ = some (.slice none 0 0) from rfl)
            have q2 := (kz.cell 2).trans (show _ = some (.slice none 0 0) from rfl)
            have q3 := (kz.cell 3).trans (show _ = some (.slice none 0 0) from rfl)
            have q4 := (kz.cell 4).trans (show _ = some (.slice none 0 0) from rfl)
            have HFz := Lib.hid (((((kz.set_ 0 (.int .i64 R.n)).set_ 1 (.slice lai R.ids.length lci)).set_ 2 (.slice lah R.had.length lch)).set_ 3 (.slice lag R.got.length lcg)).set_ 4 (.slice (some ⟨g5, 0, none⟩) R.pre.length c5))
            have hCs : Ch (At (w.heap.size + 2)) w6 (((((w6.setCell ⟨w.heap.size + 2, 0, none⟩ (.int .i64 R.n)).setCell ⟨w.heap.size + 2, 1, none⟩ (.slice lai R.ids.length lci)).setCell ⟨w.heap.size + 2, 2, none⟩ (.slice lah R.had.length lch)).setCell ⟨w.heap.size + 2, 3, none⟩ (.slice lag R.got.length lcg)).setCell ⟨w.heap.size + 2, 4, none⟩ (.slice (some ⟨g5, 0, none⟩) R.pre.length c5)) := ((((((Ch.refl (At (w.heap.size + 2)) w6).set_at 0 _).set_at 1 _).set_at 2 _).set_at 3 _).set_at 4 _)
            have gW := Grew.trans HG.out (show Grew w1 w6 from HGW.out)
            have HGz := Lib.hid (show Grew w _ from Below.trans (B := w.heap.size) gW (hCs.below gW.size (fun i hi => by have h : i = w.heap.size + 2 := hi; omega)))
            replace HO3 := Lib.hid (own_ch HO3.out hCs (fun i hi h => by have h1 := own_lt HO3.out i hi; have h2 : i = w.heap.size + 2 := h; omega))
            replace HO5 := Lib.hid (own_ch HO5.out hCs (fun i hi h => by have h1 := own_lt HO5.out i hi; have h2 : i = w.heap.size + 2 := h; omega))
            clear hCs kz gW
            go_wp2_with fail
            have f0 := (HFz.out.cell 0).trans (show _ = some (.int .i64 R.n) from rfl)
            have f1 := (HFz.out.cell 1).trans (show _ = some (.slice lai R.ids.length lci) from rfl)
            have f2 := (HFz.out.cell 2).trans (show _ = some (.slice lah R.had.length lch) from rfl)
            have f3 := (HFz.out.cell 3).trans (show _ = some (.slice lag R.got.length lcg) from rfl)
            have f4 := (HFz.out.cell 4).trans (show _ = some (.slice (some ⟨g5, 0, none⟩) R.pre.length c5) from rfl)
            refine bodyPost_ret (v := .tuple #[.agg #[.int .i64 R.n, .slice lai R.ids.length lci, .slice lah R.had.length lch, .slice lag R.got.length lcg, .slice (some ⟨g5, 0, none⟩) R.pre.length c5], .bool false]) ?_ rfl (refTake_res (L' := ⟨lai, lci, lah, lch, lag, lcg, some ⟨g5, 0, none⟩, c5⟩) (R' := { R with pre := R.pre.set k ⟨(y1, y2), ⟨none, 0, []⟩⟩ }) (by simp [rfV, List.length_set]) HTk.out (HI0.out.setPre HGz.out (own_row HO5.out) (lieC_set (HI0.out.up HGz.out).lpre Row.nil)) (HRf.out.setPre HOk.out ⟨none, 0, []⟩ hlt HCe.out) HGz.out (fun D hD => RfAt.setPre hD (own_at HO5.out (by omega)) (fun h => absurd rfl h) (Nat.le_refl _)))
            simp [results, Try.results38, go_sem, f0, f1, f2, f3, f4]
        have HId := Lib.hid hid
        have i0 : sumZ bz = y1 := congrArg Prod.fst hid
        have i1 : (bz.length : Int) = y2 := congrArg Prod.snd hid
        rw [i0, i1] at HOf
        clear i0 i1 hid
        go_upto_region 15 with (fail)
        refine wp_region_g 4 (by kernel_rfl) ?_
        refine AllC.head 0 4 (fuel := 1) (by first | exact fun h k => Grew.trans h k | exact fun h k => cls_grew h k) (grew_drew _) (by rfl) (by kernel_rfl) ?_
        simp only [List.take_succ_cons, List.take_zero, List.drop_succ_cons, List.drop_zero]
        repeat (first
          | (refine HeadC.val (by rfl) ?_
             apply Exists.intro
             refine ⟨fun w' hw' => ?_, ?_⟩
             · (have hf_0 := cell_up hw' e0; have hf_1 := cell_up hw' e1; (go_simp) <;> (try go_ints) <;> with_reducible rfl)
             try simp only [Act.put, List.setIfInBounds_toArray, List.set_cons_zero, List.set_cons_succ])
          | (refine HeadC.call (by rfl) ?_
             apply Exists.intro; apply Exists.intro
             refine ⟨fun w' hw' => ?_, ?_⟩
             · (have hf_0 := cell_up hw' e0; have hf_1 := cell_up hw' e1; (go_simp) <;> first | (refine ⟨?_, ?_⟩ <;> with_reducible rfl) | with_reducible rfl)
             apply Exists.intro
             refine ⟨fun w' hw' => ?_, ?_⟩
             · (first | exact HOf.out _ hw')
             try simp only [Act.put, List.setIfInBounds_toArray, List.set_cons_zero, List.set_cons_succ])
          | (refine HeadC.shut (by rfl) ?_
             try simp only [Act.put, List.setIfInBounds_toArray, List.set_cons_zero, List.set_cons_succ]))
        refine HeadC.nil ?_
        refine AllC.tail 4 (by rfl) (by kernel_rfl) ?_
        intro wt hwt
        simp only [List.drop_succ_cons, List.drop_zero]
        have hgt := (grew_drew _).trans hwt
        clear hwt HOf
        replace HO3 := Lib.hid (own_below HO3.out hgt)
        replace HO5 := Lib.hid (own_below HO5.out hgt)
        replace HGW := Lib.hid (HGW.out.trans hgt)
        replace r0' := cell_up hgt r0'
        replace r1' := cell_up hgt r1'
        replace r2' := cell_up hgt r2'
        replace r3' := cell_up hgt r3'
        replace r4' := cell_up hgt r4'
        replace e0 := cell_up hgt e0
        replace e1 := cell_up hgt e1
        replace e2 := cell_up hgt e2
        clear hgt t0 t1 t2 hf5

        obtain ⟨m, hm⟩ : ∃ m, R.pre.length = m + 1 := ⟨R.pre.length - 1, by omega⟩
        have HKM : Hid (k ≤ m) := Lib.hid (by omega)
        have HM := Lib.hid hm
        have hw1 : IntKind.i64.wrap ((k : Int) + 1) = (k : Int) + 1 := Go.IntWalk.i64_in _ (by omega)
        have z3 : 0 ≤ (k : Int) + 1 := by omega
        have z4 : ((k : Int) + 1).toNat = k + 1 := by omega
        by_cases hcap : c5 = k + 1
        · have hkm : k = m := by omega
          have HKE := Lib.hid hkm
          subst hcap
          have z1 : (k : Int) ≤ (k : Int) + 1 := by omega
          have z2 : (k : Int) + 1 ≤ (R.pre.length : Int) := by omega
          have z5 : (R.pre.length : Int) ≤ (k : Int) + 1 := by omega
          clear hm hkm
          go_upto_region 18 with (fail)
          refine wp_region_g 7 (by kernel_rfl) ?_
          refine AllC.head 0 7 (fuel := 2) (by first | exact fun h k => Grew.trans h k | exact fun h k => cls_grew h k) (grew_drew _) (by rfl) (by kernel_rfl) ?_
          simp only [List.take_succ_cons, List.take_zero, List.drop_succ_cons, List.drop_zero]
          repeat (first
            | (refine HeadC.val (by rfl) ?_
               apply Exists.intro
               refine ⟨fun w' hw' => ?_, ?_⟩
               · ((go_simp) <;> (try go_ints) <;> with_reducible rfl)
               try simp only [Act.put, List.setIfInBounds_toArray, List.set_cons_zero, List.set_cons_succ])
            | (refine HeadC.shut (by rfl) ?_
               try simp only [Act.put, List.setIfInBounds_toArray, List.set_cons_zero, List.set_cons_succ]))
          refine HeadC.nil ?_
          refine AllC.tail 7 (by rfl) (by kernel_rfl) ?_
          intro wt hwt
          simp only [List.drop_succ_cons, List.drop_zero]
          have hgt := (grew_drew _).trans hwt
          clear hwt
          replace HO3 := Lib.hid (own_below HO3.out hgt)
          replace HO5 := Lib.hid (own_below HO5.out hgt)
          replace HGW := Lib.hid (HGW.out.trans hgt)
          replace r0' := cell_up hgt r0'
          replace r1' := cell_up hgt r1'
          replace r2' := cell_up hgt r2'
          replace r3' := cell_up hgt r3'
          replace r4' := cell_up hgt r4'
          replace e0 := cell_up hgt e0
          replace e1 := cell_up hgt e1
          replace e2 := cell_up hgt e2

          have hO5 : wt.ownsRow (w.heap.size + 3) 64 3 (.slice (some ⟨g5, 0, none⟩) (m + 1) (k + 1)) (m + 1) (chsC R.pre) := by rw [← HM.out]; exact HO5.out
          clear hgt z1 z2 z3 z4 hw1
          refine wpList_append_shift rfl (.tmp 110) (.tmp 114) rfl (w.heap.size + 3) elem_chunk hO5 HKM.out (ones_chs _) (by rfl) (by rfl) (by have h1 := HM.out; have h2 := HKM.out; omega) (.inl HKE.out) ?_
          intro w7 ys hown7 hys hg7
          have hgs : Ch (At g5) wt w7 := Ch.of_grown hg7
          replace HO5 : Hid (w7.ownsRow (w.heap.size + 3) 64 3 (.slice (some ⟨g5, 0, none⟩) m (k + 1)) m (chsC (R.pre.eraseIdx k))) := Lib.hid (by
            have h9 := own_shrink hown7 (Nat.le_succ m)
            rw [hys, chsC_del] at h9
            exact h9)
          replace HO3 := Lib.hid (own_ch HO3.out hgs (fun i hi h => HNb.out i hi h))
          replace HGW : Hid (Grew w1 w7) := Lib.hid (Below.trans (B := w1.heap.size) HGW.out (hgs.below HGW.out.size (fun i hi => by have h : i = g5 := hi; omega)))
          replace r0' := hgs.cell r0' (fun h => by have h : w.heap.size = g5 := h; omega)
          replace r1' := hgs.cell r1' (fun h => by have h : w.heap.size = g5 := h; omega)
          replace r2' := hgs.cell r2' (fun h => by have h : w.heap.size = g5 := h; omega)
          replace r3' := hgs.cell r3' (fun h => by have h : w.heap.size = g5 := h; omega)
          replace e0 := hgs.cell e0 (fun h => by have h : gx = g5 := h; omega)
          replace e1 := hgs.cell e1 (fun h => by have h : gx = g5 := h; omega)
          clear hgs hg7 hown7 hys hO5 e2 r4'
          have HEl : Hid ((R.pre.eraseIdx k).length = m) := Lib.hid (by rw [List.length_eraseIdx_of_lt hlt, HM.out]; omega)
          have HTk : Hid (takeR r 2 (y1, y2) (yz.length : Int) zs = ({ r with pref := updF r.pref (y1, y2) [], comp := updF r.comp (y1, y2) (some bz), miss := r.miss.erase (y1, y2), recv := r.recv ++ [(y1, y2)] }, true)) := Lib.hid (by
            have h9 := takeR_done HTP.out (by rw [← HPf.out, HBe.out]; exact HMo.out) (by rw [← HPf.out, HBe.out]; exact HId.out)
            rw [← HPf.out, HBe.out] at h9
            exact h9)
          go_upto_region 19 with (fail)
          refine wp_region_g 15 (by kernel_rfl) ?_
          refine AllC.head 0 6 (fuel := 11) (by first | exact fun h k => Grew.trans h k | exact fun h k => cls_grew h k) (grew_drew _) (by rfl) (by kernel_rfl) ?_
          simp only [List.take_succ_cons, List.take_zero, List.drop_succ_cons, List.drop_zero]
          repeat (first
            | (refine HeadC.val (by rfl) ?_
               apply Exists.intro
               refine ⟨fun w' hw' => ?_, ?_⟩
               · (have hf_0 := cell_up hw' r0'; have hf_1 := cell_up hw' r1'; have hf_2 := cell_up hw' r2'; have hf_3 := cell_up hw' r3'; (go_simp) <;> (try go_ints) <;> with_reducible rfl)
               try simp only [Act.put, List.setIfInBounds_toArray, List.set_cons_zero, List.set_cons_succ])
            | (refine HeadC.shut (by rfl) ?_
               try simp only [Act.put, List.setIfInBounds_toArray, List.set_cons_zero, List.set_cons_succ]))
          refine HeadC.nil ?_
          refine AllC.head 7 4 (fuel := 7) (by first | exact fun h k => Grew.trans h k | exact fun h k => cls_grew h k) (grew_drew _) (by rfl) (by kernel_rfl) ?_
          simp only [List.take_succ_cons, List.take_zero, List.drop_succ_cons, List.drop_zero]
          repeat (first
            | (refine HeadC.val (by rfl) ?_
               apply Exists.intro
               refine ⟨fun w' hw' => ?_, ?_⟩
               · (have hf_0 := cell_up hw' e0; have hf_1 := cell_up hw' e1; (go_simp) <;> (try go_ints) <;> with_reducible rfl)
               try simp only [Act.put, List.setIfInBounds_toArray, List.set_cons_zero, List.set_cons_succ])
            | (refine HeadC.shut (by rfl) ?_
               try simp only [Act.put, List.setIfInBounds_toArray, List.set_cons_zero, List.set_cons_succ]))
          refine HeadC.nil ?_
          refine AllC.head 13 1 (fuel := 6) (by first | exact fun h k => Grew.trans h k | exact fun h k => cls_grew h k) (grew_drew _) (by rfl) (by kernel_rfl) ?_
          simp only [List.take_succ_cons, List.take_zero, List.drop_succ_cons, List.drop_zero]
          repeat (first
            | (refine HeadC.val (by rfl) ?_
               apply Exists.intro
               refine ⟨fun w' hw' => ?_, ?_⟩
               · ((go_simp) <;> (try go_ints) <;> with_reducible rfl)
               try simp only [Act.put, List.setIfInBounds_toArray, List.set_cons_zero, List.set_cons_succ])
            | (refine HeadC.shut (by rfl) ?_
               try simp only [Act.put, List.setIfInBounds_toArray, List.set_cons_zero, List.set_cons_succ]))
          refine HeadC.nil ?_
          refine AllC.both [6, 11] (by kernel_rfl) (by simp) ?_
          intro wq hq i hi
          simp only [List.mem_cons, List.not_mem_nil, or_false] at hi
          rcases hi with rfl | rfl
          · refine ⟨_, rfl, fun K hK => ?_⟩
            have hg1 : Grew w7 wq := (grew_drew w7).trans hq
            have hIg := HI.out.up (HGW.out.trans hg1)
            have HLg : Hid (w.heap.size + 3 ≤ wq.heap.size) := Lib.hid (by rw [← s2]; exact (HGW.out.trans hg1).size)
            refine step_append_row rfl (.const (.slice none 0 0)) (.tmp 121) rfl wq.heap.size elem_chunk (by rfl) (World.ownsRow_nil _ _ _ _) _ (by rfl) (chsC_len _) hIg.rgot (ones_chs _) (by unfold maxLen; omega) (by omega) (Nat.le_refl _) ?_
            intro A8 k8 w8 hown8 hg8 hv8
            rw [List.nil_append, Nat.zero_add] at hown8
            rw [Nat.zero_add] at hv8 ⊢
            have hG8 := hg1.trans (grewA_one hg8)
            refine hK.out _ _ hG8 ?_
            clear hK K
            try simp only [Act.put, List.setIfInBounds_toArray, List.set_cons_zero, List.set_cons_succ]
            refine AllC.one 11 (by kernel_rfl) rfl ?_
            intro wg hg K hK
            go_simp
            have hga := hG8.trans (hg.trans (grew_alloc wg (.cells #[.int .u64 y1, .int .i64 y2, .slice A3 bz.length k3] 64)))
            have hrow := Blk.row (Blk.new wg 64 #[.int .u64 y1, .int .i64 y2, .slice A3 bz.length k3])
            have hga2 := hg.trans (grew_alloc wg (.cells #[.int .u64 y1, .int .i64 y2, .slice A3 bz.length k3] 64))
            refine hK.out _ _ hga ?_
            clear hK K hg
            try simp only [Act.put, List.setIfInBounds_toArray, List.set_cons_zero, List.set_cons_succ]
            generalize wg.alloc (.cells #[.int .u64 y1, .int .i64 y2, .slice A3 bz.length k3] 64) = w9 at *
            generalize wg.heap.size = g9 at *
            clear wg
            refine AllC.one 12 (by kernel_rfl) rfl ?_
            intro wg hg K hK
            have hgb := hga2.trans hg
            have hO := own_below hown8 hgb
            refine step_append_row rfl (.tmp 122) (.tmp 127) rfl wq.heap.size elem_chunk (by rfl) hO _ (by rfl) (by rfl) (hrow.up hg (Nat.le_refl _)) (ones_chs [⟨(y1, y2), ⟨A3, k3, bz⟩⟩]) (by unfold maxLen; omega) (by omega) (Nat.le_trans (grewA_one hg8).size hgb.size) ?_
            intro Ag kg wA hownA hgA hvA
            have hGA : Grew w7 wA := hg1.trans (grewA_three hg8 hv8 hgb hgA)
            refine hK.out _ _ hGA ?_
            have HOg : Hid (wA.ownsRow (w.heap.size + 3) 64 3 (.slice Ag (R.got.length + 1) kg) (R.got.length + 1) (chsC (R.got ++ [⟨(y1, y2), ⟨A3, k3, bz⟩⟩]))) := Lib.hid (own_mono (by rw [chsC_append]; exact hownA) HLg.out)
            clear hK K hga hrow hga2 hgb hO hg8 hv8 hownA hgA hvA hown8 hG8 hg1 hq hIg hg
            try simp only [Act.put, List.setIfInBounds_toArray, List.set_cons_zero, List.set_cons_succ]
            refine AllC.head 14 1 (fuel := 2) (by first | exact fun h k => Grew.trans h k | exact fun h k => cls_grew h k) (hGA) (by rfl) (by kernel_rfl) ?_
            simp only [List.take_succ_cons, List.take_zero, List.drop_succ_cons, List.drop_zero]
            repeat (first
              | (refine HeadC.val (by rfl) ?_
                 apply Exists.intro
                 refine ⟨fun w' hw' => ?_, ?_⟩
                 · ((go_simp) <;> (try go_ints) <;> with_reducible rfl)
                 try simp only [Act.put, List.setIfInBounds_toArray, List.set_cons_zero, List.set_cons_succ])
              | (refine HeadC.shut (by rfl) ?_
                 try simp only [Act.put, List.setIfInBounds_toArray, List.set_cons_zero, List.set_cons_succ]))
            refine HeadC.nil ?_
            refine AllC.tail 15 (by rfl) (by kernel_rfl) ?_
            intro wt hwt
            simp only [List.drop_succ_cons, List.drop_zero]
            have hgt := hGA.trans hwt
            replace HO3 := Lib.hid (own_below HO3.out hgt)
            replace HO5 := Lib.hid (own_below HO5.out hgt)
            replace HOg := Lib.hid (own_below HOg.out hwt)
            replace HGW := Lib.hid (HGW.out.trans hgt)
            clear hgt hwt hGA e0 e1 r0' r1' r2' r3'
            have kz := HZ.out.of (show Grew w1 wt from HGW.out)
            have fz0 := kz.frozen 0
            have fz1 := kz.frozen 1
            have fz2 := kz.frozen 2
            have fz3 := kz.frozen 3
            have fz4 := kz.frozen 4
            have q0 := (kz.cell 0).trans (show _ = some (.int .i64 0) from rfl)
            have q1 := (kz.cell 1).trans (show _ = some (.slice none 0 0) from rfl)
            have q2 := (kz.cell 2).trans (show _ = some (.slice none 0 0) from rfl)
            have q3 := (kz.cell 3).trans (show _ = some (.slice none 0 0) from rfl)
            have q4 := (kz.cell 4).trans (show _ = some (.slice none 0 0) from rfl)
            have HFz := Lib.hid (((((kz.set_ 0 (.int .i64 R.n)).set_ 1 (.slice lai R.ids.length lci)).set_ 2 (.slice lah R.had.length lch)).set_ 3 (.slice Ag (R.got.length + 1) kg)).set_ 4 (.slice (some ⟨g5, 0, none⟩) m (k + 1)))
            have hCs : Ch (At (w.heap.size + 2)) wt (((((wt.setCell ⟨w.heap.size + 2, 0, none⟩ (.int .i64 R.n)).setCell ⟨w.heap.size + 2, 1, none⟩ (.slice lai R.ids.length lci)).setCell ⟨w.heap.size + 2, 2, none⟩ (.slice lah R.had.length lch)).setCell ⟨w.heap.size + 2, 3, none⟩ (.slice Ag (R.got.length + 1) kg)).setCell ⟨w.heap.size + 2, 4, none⟩ (.slice (some ⟨g5, 0, none⟩) m (k + 1))) := ((((((Ch.refl (At (w.heap.size + 2)) wt).set_at 0 _).set_at 1 _).set_at 2 _).set_at 3 _).set_at 4 _)
            have gW := Grew.trans HG.out (show Grew w1 wt from HGW.out)
            have HGz := Lib.hid (show Grew w _ from Below.trans (B := w.heap.size) gW (hCs.below gW.size (fun i hi => by have h : i = w.heap.size + 2 := hi; omega)))
            replace HO3 := Lib.hid (own_ch HO3.out hCs (fun i hi h => by have h1 := own_lt HO3.out i hi; have h2 : i = w.heap.size + 2 := h; omega))
            replace HO5 := Lib.hid (own_ch HO5.out hCs (fun i hi h => by have h1 := own_lt HO5.out i hi; have h2 : i = w.heap.size + 2 := h; omega))
            replace HOg := Lib.hid (own_ch HOg.out hCs (fun i hi h => by have h1 := own_lt HOg.out i hi; have h2 : i = w.heap.size + 2 := h; omega))
            clear hCs kz gW
            go_wp2_with fail
            have f0 := (HFz.out.cell 0).trans (show _ = some (.int .i64 R.n) from rfl)
            have f1 := (HFz.out.cell 1).trans (show _ = some (.slice lai R.ids.length lci) from rfl)
            have f2 := (HFz.out.cell 2).trans (show _ = some (.slice lah R.had.length lch) from rfl)
            have f3 := (HFz.out.cell 3).trans (show _ = some (.slice Ag (R.got.length + 1) kg) from rfl)
            have f4 := (HFz.out.cell 4).trans (show _ = some (.slice (some ⟨g5, 0, none⟩) m (k + 1)) from rfl)
            refine bodyPost_ret (v := .tuple #[.agg #[.int .i64 R.n, .slice lai R.ids.length lci, .slice lah R.had.length lch, .slice Ag (R.got.length + 1) kg, .slice (some ⟨g5, 0, none⟩) m (k + 1)], .bool true]) ?_ rfl (refTake_res (L' := ⟨lai, lci, lah, lch, Ag, kg, some ⟨g5, 0, none⟩, (k + 1)⟩) (R' := { R with got := R.got ++ [⟨(y1, y2), ⟨A3, k3, bz⟩⟩], pre := R.pre.eraseIdx k }) (by unfold rfV; simp only [List.length_append, List.length_singleton, HEl.out]) HTk.out (HI0.out.done HGz.out (own_row HO5.out) (fun c hc => (HI0.out.up HGz.out).lpre c (List.mem_of_mem_eraseIdx hc)) (own_row HOg.out) (fun c hc => (List.mem_append.1 hc).elim ((HI0.out.up HGz.out).lgot c) (fun h => by rw [List.mem_singleton.1 h]; exact own_row HO3.out))) (HRf.out.done HOk.out ⟨A3, k3, bz⟩ hlt HCe.out) HGz.out (fun D hD => RfAt.done hD (own_at HO5.out (by omega)) (own_at HOg.out (by omega)) (fun _ => own_at HO3.out (by omega)) (own_cap HO3.out).1))
            simp [results, Try.results38, go_sem, f0, f1, f2, f3, f4]
          · refine ⟨_, rfl, fun K hK => ?_⟩
            have hg0 : Grew w7 wq := (grew_drew w7).trans hq
            go_simp
            have hga := hg0.trans (grew_alloc wq (.cells #[.int .u64 y1, .int .i64 y2, .slice A3 bz.length k3] 64))
            have hrow := Blk.row (Blk.new wq 64 #[.int .u64 y1, .int .i64 y2, .slice A3 bz.length k3])
            refine hK.out _ _ hga ?_
            clear hK K
            try simp only [Act.put, List.setIfInBounds_toArray, List.set_cons_zero, List.set_cons_succ]
            generalize wq.alloc (.cells #[.int .u64 y1, .int .i64 y2, .slice A3 bz.length k3] 64) = w9 at *
            generalize wq.heap.size = g9 at *
            clear hg0 hq wq
            refine AllC.one 6 (by kernel_rfl) rfl ?_
            intro wg hg K hK
            have hg1 : Grew w7 wg := hga.trans hg
            have hIg := HI.out.up (HGW.out.trans hg1)
            have HLg : Hid (w.heap.size + 3 ≤ wg.heap.size) := Lib.hid (by rw [← s2]; exact (HGW.out.trans hg1).size)
            refine step_append_row rfl (.const (.slice none 0 0)) (.tmp 121) rfl wg.heap.size elem_chunk (by rfl) (World.ownsRow_nil _ _ _ _) _ (by rfl) (chsC_len _) hIg.rgot (ones_chs _) (by unfold maxLen; omega) (by omega) (Nat.le_refl _) ?_
            intro A8 k8 w8 hown8 hg8 hv8
            rw [List.nil_append, Nat.zero_add] at hown8
            rw [Nat.zero_add] at hv8 ⊢
            have hG8 := hg1.trans (grewA_one hg8)
            refine hK.out _ _ hG8 ?_
            clear hK K
            try simp only [Act.put, List.setIfInBounds_toArray, List.set_cons_zero, List.set_cons_succ]
            refine AllC.one 12 (by kernel_rfl) rfl ?_
            intro wh hh K hK
            have hO := own_below hown8 hh
            refine step_append_row rfl (.tmp 122) (.tmp 127) rfl wg.heap.size elem_chunk (by rfl) hO _ (by rfl) (by rfl) (((hrow.up hg (Nat.le_refl _)).more hg.size).up ((grewA_one hg8).trans hh) (Nat.le_refl _)) (ones_chs [⟨(y1, y2), ⟨A3, k3, bz⟩⟩]) (by unfold maxLen; omega) (by omega) (Nat.le_trans (grewA_one hg8).size hh.size) ?_
            intro Ag kg wA hownA hgA hvA
            have hGA : Grew w7 wA := hg1.trans (grewA_three hg8 hv8 hh hgA)
            refine hK.out _ _ hGA ?_
            have HOg : Hid (wA.ownsRow (w.heap.size + 3) 64 3 (.slice Ag (R.got.length + 1) kg) (R.got.length + 1) (chsC (R.got ++ [⟨(y1, y2), ⟨A3, k3, bz⟩⟩]))) := Lib.hid (own_mono (by rw [chsC_append]; exact hownA) HLg.out)
            clear hK K hga hrow hO hg8 hv8 hownA hgA hvA hown8 hG8 hg1 hIg hg hh
            try simp only [Act.put, List.setIfInBounds_toArray, List.set_cons_zero, List.set_cons_succ]
            refine AllC.head 14 1 (fuel := 2) (by first | exact fun h k => Grew.trans h k | exact fun h k => cls_grew h k) (hGA) (by rfl) (by kernel_rfl) ?_
            simp only [List.take_succ_cons, List.take_zero, List.drop_succ_cons, List.drop_zero]
            repeat (first
              | (refine HeadC.val (by rfl) ?_
                 apply Exists.intro
                 refine ⟨fun w' hw' => ?_, ?_⟩
                 · ((go_simp) <;> (try go_ints) <;> with_reducible rfl)
                 try simp only [Act.put, List.setIfInBounds_toArray, List.set_cons_zero, List.set_cons_succ])
              | (refine HeadC.shut (by rfl) ?_
                 try simp only [Act.put, List.setIfInBounds_toArray, List.set_cons_zero, List.set_cons_succ]))
            refine HeadC.nil ?_
            refine AllC.tail 15 (by rfl) (by kernel_rfl) ?_
            intro wt hwt
            simp only [List.drop_succ_cons, List.drop_zero]
            have hgt := hGA.trans hwt
            replace HO3 := Lib.hid (own_below HO3.out hgt)
            replace HO5 := Lib.hid (own_below HO5.out hgt)
            replace HOg := Lib.hid (own_below HOg.out hwt)
            replace HGW := Lib.hid (HGW.out.trans hgt)
            clear hgt hwt hGA e0 e1 r0' r1' r2' r3'
            have kz := HZ.out.of (show Grew w1 wt from HGW.out)
            have fz0 := kz.frozen 0
            have fz1 := kz.frozen 1
            have fz2 := kz.frozen 2
            have fz3 := kz.frozen 3
            have fz4 := kz.frozen 4
            have q0 := (kz.cell 0).trans (show _ = some (.int .i64 0) from rfl)
            have q1 := (kz.cell 1).trans (show _ = some (.slice none 0 0) from rfl)
            have q2 := (kz.cell 2).trans (show _ = some (.slice none 0 0) from rfl)
            have q3 := (kz.cell 3).trans (show _ = some (.slice none 0 0) from rfl)
            have q4 := (kz.cell 4).trans (show _ = some (.slice none 0 0) from rfl)
            have HFz := Lib.hid (((((kz.set_ 0 (.int .i64 R.n)).set_ 1 (.slice lai R.ids.length lci)).set_ 2 (.slice lah R.had.length lch)).set_ 3 (.slice Ag (R.got.length + 1) kg)).set_ 4 (.slice (some ⟨g5, 0, none⟩) m (k + 1)))
            have hCs : Ch (At (w.heap.size + 2)) wt (((((wt.setCell ⟨w.heap.size + 2, 0, none⟩ (.int .i64 R.n)).setCell ⟨w.heap.size + 2, 1, none⟩ (.slice lai R.ids.length lci)).setCell ⟨w.heap.size + 2, 2, none⟩ (.slice lah R.had.length lch)).setCell ⟨w.heap.size + 2, 3, none⟩ (.slice Ag (R.got.length + 1) kg)).setCell ⟨w.heap.size + 2, 4, none⟩ (.slice (some ⟨g5, 0, none⟩) m (k + 1))) := ((((((Ch.refl (At (w.heap.size + 2)) wt).set_at 0 _).set_at 1 _).set_at 2 _).set_at 3 _).set_at 4 _)
            have gW := Grew.trans HG.out (show Grew w1 wt from HGW.out)
            have HGz := Lib.hid (show Grew w _ from Below.trans (B := w.heap.size) gW (hCs.below gW.size (fun i hi => by have h : i = w.heap.size + 2 := hi; omega)))
            replace HO3 := Lib.hid (own_ch HO3.out hCs (fun i hi h => by have h1 := own_lt HO3.out i hi; have h2 : i = w.heap.size + 2 := h; omega))
            replace HO5 := Lib.hid (own_ch HO5.out hCs (fun i hi h => by have h1 := own_lt HO5.out i hi; have h2 : i = w.heap.size + 2 := h; omega))
            replace HOg := Lib.hid (own_ch HOg.out hCs (fun i hi h => by have h1 := own_lt HOg.out i hi; have h2 : i = w.heap.size + 2 := h; omega))
            clear hCs kz gW
            go_wp2_with fail
            have f0 := (HFz.out.cell 0).trans (show _ = some (.int .i64 R.n) from rfl)
            have f1 := (HFz.out.cell 1).trans (show _ = some (.slice lai R.ids.length lci) from rfl)
            have f2 := (HFz.out.cell 2).trans (show _ = some (.slice lah R.had.length lch) from rfl)
            have f3 := (HFz.out.cell 3).trans (show _ = some (.slice Ag (R.got.length + 1) kg) from rfl)
            have f4 := (HFz.out.cell 4).trans (show _ = some (.slice (some ⟨g5, 0, none⟩) m (k + 1)) from rfl)
            refine bodyPost_ret (v := .tuple #[.agg #[.int .i64 R.n, .slice lai R.ids.length lci, .slice lah R.had.length lch, .slice Ag (R.got.length + 1) kg, .slice (some ⟨g5, 0, none⟩) m (k + 1)], .bool true]) ?_ rfl (refTake_res (L' := ⟨lai, lci, lah, lch, Ag, kg, some ⟨g5, 0, none⟩, (k + 1)⟩) (R' := { R with got := R.got ++ [⟨(y1, y2), ⟨A3, k3, bz⟩⟩], pre := R.pre.eraseIdx k }) (by unfold rfV; simp only [List.length_append, List.length_singleton, HEl.out]) HTk.out (HI0.out.done HGz.out (own_row HO5.out) (fun c hc => (HI0.out.up HGz.out).lpre c (List.mem_of_mem_eraseIdx hc)) (own_row HOg.out) (fun c hc => (List.mem_append.1 hc).elim ((HI0.out.up HGz.out).lgot c) (fun h => by rw [List.mem_singleton.1 h]; exact own_row HO3.out))) (HRf.out.done HOk.out ⟨A3, k3, bz⟩ hlt HCe.out) HGz.out (fun D hD => RfAt.done hD (own_at HO5.out (by omega)) (own_at HOg.out (by omega)) (fun _ => own_at HO3.out (by omega)) (own_cap HO3.out).1))
            simp [results, Try.results38, go_sem, f0, f1, f2, f3, f4]
        · have hcI : ¬ (c5 : Int) = (k : Int) + 1 := by omega
          have z1 : (k : Int) ≤ (c5 : Int) := by omega
          have z2 : (k : Int) + 1 ≤ (R.pre.length : Int) := by omega
          clear hm
          go_upto_region 18 with (fail)
          refine wp_region_g 7 (by kernel_rfl) ?_
          refine AllC.head 0 7 (fuel := 2) (by first | exact fun h k => Grew.trans h k | exact fun h k => cls_grew h k) (grew_drew _) (by rfl) (by kernel_rfl) ?_
          simp only [List.take_succ_cons, List.take_zero, List.drop_succ_cons, List.drop_zero]
          repeat (first
            | (refine HeadC.val (by rfl) ?_
               apply Exists.intro
               refine ⟨fun w' hw' => ?_, ?_⟩
               · ((go_simp) <;> (try go_ints) <;> with_reducible rfl)
               try simp only [Act.put, List.setIfInBounds_toArray, List.set_cons_zero, List.set_cons_succ])
            | (refine HeadC.shut (by rfl) ?_
               try simp only [Act.put, List.setIfInBounds_toArray, List.set_cons_zero, List.set_cons_succ]))
          refine HeadC.nil ?_
          refine AllC.tail 7 (by rfl) (by kernel_rfl) ?_
          intro wt hwt
          simp only [List.drop_succ_cons, List.drop_zero]
          have hgt := (grew_drew _).trans hwt
          clear hwt
          replace HO3 := Lib.hid (own_below HO3.out hgt)
          replace HO5 := Lib.hid (own_below HO5.out hgt)
          replace HGW := Lib.hid (HGW.out.trans hgt)
          replace r0' := cell_up hgt r0'
          replace r1' := cell_up hgt r1'
          replace r2' := cell_up hgt r2'
          replace r3' := cell_up hgt r3'
          replace r4' := cell_up hgt r4'
          replace e0 := cell_up hgt e0
          replace e1 := cell_up hgt e1
          replace e2 := cell_up hgt e2

          have hO5 : wt.ownsRow (w.heap.size + 3) 64 3 (.slice (some ⟨g5, 0, none⟩) (m + 1) c5) (m + 1) (chsC R.pre) := by rw [← HM.out]; exact HO5.out
          clear hgt z1 z2 z3 z4 hw1
          refine wpList_append_shift rfl (.tmp 110) (.tmp 114) rfl (w.heap.size + 3) elem_chunk hO5 HKM.out (ones_chs _) (by rfl) (by rfl) (by have h1 := HM.out; have h2 := HKM.out; omega) (.inr rfl) ?_
          intro w7 ys hown7 hys hg7
          have hgs : Ch (At g5) wt w7 := Ch.of_grown hg7
          replace HO5 : Hid (w7.ownsRow (w.heap.size + 3) 64 3 (.slice (some ⟨g5, 0, none⟩) m c5) m (chsC (R.pre.eraseIdx k))) := Lib.hid (by
            have h9 := own_shrink hown7 (Nat.le_succ m)
            rw [hys, chsC_del] at h9
            exact h9)
          replace HO3 := Lib.hid (own_ch HO3.out hgs (fun i hi h => HNb.out i hi h))
          replace HGW : Hid (Grew w1 w7) := Lib.hid (Below.trans (B := w1.heap.size) HGW.out (hgs.below HGW.out.size (fun i hi => by have h : i = g5 := hi; omega)))
          replace r0' := hgs.cell r0' (fun h => by have h : w.heap.size = g5 := h; omega)
          replace r1' := hgs.cell r1' (fun h => by have h : w.heap.size = g5 := h; omega)
          replace r2' := hgs.cell r2' (fun h => by have h : w.heap.size = g5 := h; omega)
          replace r3' := hgs.cell r3' (fun h => by have h : w.heap.size = g5 := h; omega)
          replace e0 := hgs.cell e0 (fun h => by have h : gx = g5 := h; omega)
          replace e1 := hgs.cell e1 (fun h => by have h : gx = g5 := h; omega)
          clear hgs hg7 hown7 hys hO5 e2 r4'
          have HEl : Hid ((R.pre.eraseIdx k).length = m) := Lib.hid (by rw [List.length_eraseIdx_of_lt hlt, HM.out]; omega)
          have HTk : Hid (takeR r 2 (y1, y2) (yz.length : Int) zs = ({ r with pref := updF r.pref (y1, y2) [], comp := updF r.comp (y1, y2) (some bz), miss := r.miss.erase (y1, y2), recv := r.recv ++ [(y1, y2)] }, true)) := Lib.hid (by
            have h9 := takeR_done HTP.out (by rw [← HPf.out, HBe.out]; exact HMo.out) (by rw [← HPf.out, HBe.out]; exact HId.out)
            rw [← HPf.out, HBe.out] at h9
            exact h9)
          go_upto_region 19 with (fail)
          refine wp_region_g 15 (by kernel_rfl) ?_
          refine AllC.head 0 6 (fuel := 11) (by first | exact fun h k => Grew.trans h k | exact fun h k => cls_grew h k) (grew_drew _) (by rfl) (by kernel_rfl) ?_
          simp only [List.take_succ_cons, List.take_zero, List.drop_succ_cons, List.drop_zero]
          repeat (first
            | (refine HeadC.val (by rfl) ?_
               apply Exists.intro
               refine ⟨fun w' hw' => ?_, ?_⟩
               · (have hf_0 := cell_up hw' r0'; have hf_1 := cell_up hw' r1'; have hf_2 := cell_up hw' r2'; have hf_3 := cell_up hw' r3'; (go_simp) <;> (try go_ints) <;> with_reducible rfl)
               try simp only [Act.put, List.setIfInBounds_toArray, List.set_cons_zero, List.set_cons_succ])
            | (refine HeadC.shut (by rfl) ?_
               try simp only [Act.put, List.setIfInBounds_toArray, List.set_cons_zero, List.set_cons_succ]))
          refine HeadC.nil ?_
          refine AllC.head 7 4 (fuel := 7) (by first | exact fun h k => Grew.trans h k | exact fun h k => cls_grew h k) (grew_drew _) (by rfl) (by kernel_rfl) ?_
          simp only [List.take_succ_cons, List.take_zero, List.drop_succ_cons, List.drop_zero]
          repeat (first
            | (refine HeadC.val (by rfl) ?_
               apply Exists.intro
               refine ⟨fun w' hw' => ?_, ?_⟩
               · (have hf_0 := cell_up hw' e0; have hf_1 := cell_up hw' e1; (go_simp) <;> (try go_ints) <;> with_reducible rfl)
               try simp only [Act.put, List.setIfInBounds_toArray, List.set_cons_zero, List.set_cons_succ])
            | (refine HeadC.shut (by rfl) ?_
               try simp only [Act.put, List.setIfInBounds_toArray, List.set_cons_zero, List.set_cons_succ]))
          refine HeadC.nil ?_
          refine AllC.head 13 1 (fuel := 6) (by first | exact fun h k => Grew.trans h k | exact fun h k => cls_grew h k) (grew_drew _) (by rfl) (by kernel_rfl) ?_
          simp only [List.take_succ_cons, List.take_zero, List.drop_succ_cons, List.drop_zero]
          repeat (first
            | (refine HeadC.val (by rfl) ?_
               apply Exists.intro
               refine ⟨fun w' hw' => ?_, ?_⟩
               · ((go_simp) <;> (try go_ints) <;> with_reducible rfl)
               try simp only [Act.put, List.setIfInBounds_toArray, List.set_cons_zero, List.set_cons_succ])
            | (refine HeadC.shut (by rfl) ?_
               try simp only [Act.put, List.setIfInBounds_toArray, List.set_cons_zero, List.set_cons_succ]))
          refine HeadC.nil ?_
          refine AllC.both [6, 11] (by kernel_rfl) (by simp) ?_
          intro wq hq i hi
          simp only [List.mem_cons, List.not_mem_nil, or_false] at hi
          rcases hi with rfl | rfl
          · refine ⟨_, rfl, fun K hK => ?_⟩
            have hg1 : Grew w7 wq := (grew_drew w7).trans hq
            have hIg := HI.out.up (HGW.out.trans hg1)
            have HLg : Hid (w.heap.size + 3 ≤ wq.heap.size) := Lib.hid (by rw [← s2]; exact (HGW.out.trans hg1).size)
            refine step_append_row rfl (.const (.slice none 0 0)) (.tmp 121) rfl wq.heap.size elem_chunk (by rfl) (World.ownsRow_nil _ _ _ _) _ (by rfl) (chsC_len _) hIg.rgot (ones_chs _) (by unfold maxLen; omega) (by omega) (Nat.le_refl _) ?_
            intro A8 k8 w8 hown8 hg8 hv8
            rw [List.nil_append, Nat.zero_add] at hown8
            rw [Nat.zero_add] at hv8 ⊢
            have hG8 := hg1.trans (grewA_one hg8)
            refine hK.out _ _ hG8 ?_
            clear hK K
            try simp only [Act.put, List.setIfInBounds_toArray, List.set_cons_zero, List.set_cons_succ]
            refine AllC.one 11 (by kernel_rfl) rfl ?_
            intro wg hg K hK
            go_simp
            have hga := hG8.trans (hg.trans (grew_alloc wg (.cells #[.int .u64 y1, .int .i64 y2, .slice A3 bz.length k3] 64)))
            have hrow := Blk.row (Blk.new wg 64 #[.int .u64 y1, .int .i64 y2, .slice A3 bz.length k3])
            have hga2 := hg.trans (grew_alloc wg (.cells #[.int .u64 y1, .int .i64 y2, .slice A3 bz.length k3] 64))
            refine hK.out _ _ hga ?_
            clear hK K hg
            try simp only [Act.put, List.setIfInBounds_toArray, List.set_cons_zero, List.set_cons_succ]
            generalize wg.alloc (.cells #[.int .u64 y1, .int .i64 y2, .slice A3 bz.length k3] 64) = w9 at *
            generalize wg.heap.size = g9 at *
            clear wg
            refine AllC.one 12 (by kernel_rfl) rfl ?_
            intro wg hg K hK
            have hgb := hga2.trans hg
            have hO := own_below hown8 hgb
            refine step_append_row rfl (.tmp 122) (.tmp 127) rfl wq.heap.size elem_chunk (by rfl) hO _ (by rfl) (by rfl) (hrow.up hg (Nat.le_refl _)) (ones_chs [⟨(y1, y2), ⟨A3, k3, bz⟩⟩]) (by unfold maxLen; omega) (by omega) (Nat.le_trans (grewA_one hg8).size hgb.size) ?_
            intro Ag kg wA hownA hgA hvA
            have hGA : Grew w7 wA := hg1.trans (grewA_three hg8 hv8 hgb hgA)
            refine hK.out _ _ hGA ?_
            have HOg : Hid (wA.ownsRow (w.heap.size + 3) 64 3 (.slice Ag (R.got.length + 1) kg) (R.got.length + 1) (chsC (R.got ++ [⟨(y1, y2), ⟨A3, k3, bz⟩⟩]))) := Lib.hid (own_mono (by rw [chsC_append]; exact hownA) HLg.out)
            clear hK K hga hrow hga2 hgb hO hg8 hv8 hownA hgA hvA hown8 hG8 hg1 hq hIg hg
            try simp only [Act.put, List.setIfInBounds_toArray, List.set_cons_zero, List.set_cons_succ]
            refine AllC.head 14 1 (fuel := 2) (by first | exact fun h k => Grew.trans h k | exact fun h k => cls_grew h k) (hGA) (by rfl) (by kernel_rfl) ?_
            simp only [List.take_succ_cons, List.take_zero, List.drop_succ_cons, List.drop_zero]
            repeat (first
              | (refine HeadC.val (by rfl) ?_
                 apply Exists.intro
                 refine ⟨fun w' hw' => ?_, ?_⟩
                 · ((go_simp) <;> (try go_ints) <;> with_reducible rfl)
                 try simp only [Act.put, List.setIfInBounds_toArray, List.set_cons_zero, List.set_cons_succ])
              | (refine HeadC.shut (by rfl) ?_
                 try simp only [Act.put, List.setIfInBounds_toArray, List.set_cons_zero, List.set_cons_succ]))
            refine HeadC.nil ?_
            refine AllC.tail 15 (by rfl) (by kernel_rfl) ?_
            intro wt hwt
            simp only [List.drop_succ_cons, List.drop_zero]
            have hgt := hGA.trans hwt
            replace HO3 := Lib.hid (own_below HO3.out hgt)
            replace HO5 := Lib.hid (own_below HO5.out hgt)
            replace HOg := Lib.hid (own_below HOg.out hwt)
            replace HGW := Lib.hid (HGW.out.trans hgt)
            clear hgt hwt hGA e0 e1 r0' r1' r2' r3'
            have kz := HZ.out.of (show Grew w1 wt from HGW.out)
            have fz0 := kz.frozen 0
            have fz1 := kz.frozen 1
            have fz2 := kz.frozen 2
            have fz3 := kz.frozen 3
            have fz4 := kz.frozen 4
            have q0 := (kz.cell 0).trans (show _ = some (.int .i64 0) from rfl)
            have q1 := (kz.cell 1).trans (show _ = some (.slice none 0 0) from rfl)
            have q2 := (kz.cell 2).trans (show _ = some (.slice none 0 0) from rfl)
            have q3 := (kz.cell 3).trans (show _ = some (.slice none 0 0) from rfl)
            have q4 := (kz.cell 4).trans (show _ = some (.slice none 0 0) from rfl)
            have HFz := Lib.hid (((((kz.set_ 0 (.int .i64 R.n)).set_ 1 (.slice lai R.ids.length lci)).set_ 2 (.slice lah R.had.length lch)).set_ 3 (.slice Ag (R.got.length + 1) kg)).set_ 4 (.slice (some ⟨g5, 0, none⟩) m c5))
            have hCs : Ch (At (w.heap.size + 2)) wt (((((wt.setCell ⟨w.heap.size + 2, 0, none⟩ (.int .i64 R.n)).setCell ⟨w.heap.size + 2, 1, none⟩ (.slice lai R.ids.length lci)).setCell ⟨w.heap.size + 2, 2, none⟩ (.slice lah R.had.length lch)).setCell ⟨w.heap.size + 2, 3, none⟩ (.slice Ag (R.got.length + 1) kg)).setCell ⟨w.heap.size + 2, 4, none⟩ (.slice (some ⟨g5, 0, none⟩) m c5)) := ((((((Ch.refl (At (w.heap.size + 2)) wt).set_at 0 _).set_at 1 _).set_at 2 _).set_at 3 _).set_at 4 _)
            have gW := Grew.trans HG.out (show Grew w1 wt from HGW.out)
            have HGz := Lib.hid (show Grew w _ from Below.trans (B := w.heap.size) gW (hCs.below gW.size (fun i hi => by have h : i = w.heap.size + 2 := hi; omega)))
            replace HO3 := Lib.hid (own_ch HO3.out hCs (fun i hi h => by have h1 := own_lt HO3.out i hi; have h2 : i = w.heap.size + 2 := h; omega))
            replace HO5 := Lib.hid (own_ch HO5.out hCs (fun i hi h => by have h1 := own_lt HO5.out i hi; have h2 : i = w.heap.size + 2 := h; omega))
            replace HOg := Lib.hid (own_ch HOg.out hCs (fun i hi h => by have h1 := own_lt HOg.out i hi; have h2 : i = w.heap.size + 2 := h; omega))
            clear hCs kz gW
            go_wp2_with fail
            have f0 := (HFz.out.cell 0).trans (show _ = some (.int .i64 R.n) from rfl)
            have f1 := (HFz.out.cell 1).trans (show _ = some (.slice lai R.ids.length lci) from rfl)
            have f2 := (HFz.out.cell 2).trans (show _ = some (.slice lah R.had.length lch) from rfl)
            have f3 := (HFz.out.cell 3).trans (show _ = some (.slice Ag (R.got.length + 1) kg) from rfl)
            have f4 := (HFz.out.cell 4).trans (show _ = some (.slice (some ⟨g5, 0, none⟩) m c5) from rfl)
            refine bodyPost_ret (v := .tuple #[.agg #[.int .i64 R.n, .slice lai R.ids.length lci, .slice lah R.had.length lch, .slice Ag (R.got.length + 1) kg, .slice (some ⟨g5, 0, none⟩) m c5], .bool true]) ?_ rfl (refTake_res (L' := ⟨lai, lci, lah, lch, Ag, kg, some ⟨g5, 0, none⟩, c5⟩) (R' := { R with got := R.got ++ [⟨(y1, y2), ⟨A3, k3, bz⟩⟩], pre := R.pre.eraseIdx k }) (by unfold rfV; simp only [List.length_append, List.length_singleton, HEl.out]) HTk.out (HI0.out.done HGz.out (own_row HO5.out) (fun c hc => (HI0.out.up HGz.out).lpre c (List.mem_of_mem_eraseIdx hc)) (own_row HOg.out) (fun c hc => (List.mem_append.1 hc).elim ((HI0.out.up HGz.out).lgot c) (fun h => by rw [List.mem_singleton.1 h]; exact own_row HO3.out))) (HRf.out.done HOk.out ⟨A3, k3, bz⟩ hlt HCe.out) HGz.out (fun D hD => RfAt.done hD (own_at HO5.out (by omega)) (own_at HOg.out (by omega)) (fun _ => own_at HO3.out (by omega)) (own_cap HO3.out).1))
            simp [results, Try.results38, go_sem, f0, f1, f2, f3, f4]
          · refine ⟨_, rfl, fun K hK => ?_⟩
            have hg0 : Grew w7 wq := (grew_drew w7).trans hq
            go_simp
            have hga := hg0.trans (grew_alloc wq (.cells #[.int .u64 y1, .int .i64 y2, .slice A3 bz.length k3] 64))
            have hrow := Blk.row (Blk.new wq 64 #[.int .u64 y1, .int .i64 y2, .slice A3 bz.length k3])
            refine hK.out _ _ hga ?_
            clear hK K
            try simp only [Act.put, List.setIfInBounds_toArray, List.set_cons_zero, List.set_cons_succ]
            generalize wq.alloc (.cells #[.int .u64 y1, .int .i64 y2, .slice A3 bz.length k3] 64) = w9 at *
            generalize wq.heap.size = g9 at *
            clear hg0 hq wq
            refine AllC.one 6 (by kernel_rfl) rfl ?_
            intro wg hg K hK
            have hg1 : Grew w7 wg := hga.trans hg
            have hIg := HI.out.up (HGW.out.trans hg1)
            have HLg : Hid (w.heap.size + 3 ≤ wg.heap.size) := Lib.hid (by rw [← s2]; exact (HGW.out.trans hg1).size)
            refine step_append_row rfl (.const (.slice none 0 0)) (.tmp 121) rfl wg.heap.size elem_chunk (by rfl) (World.ownsRow_nil _ _ _ _) _ (by rfl) (chsC_len _) hIg.rgot (ones_chs _) (by unfold maxLen; omega) (by omega) (Nat.le_refl _) ?_
            intro A8 k8 w8 hown8 hg8 hv8
            rw [List.nil_append, Nat.zero_add] at hown8
            rw [Nat.zero_add] at hv8 ⊢
            have hG8 := hg1.trans (grewA_one hg8)
            refine hK.out _ _ hG8 ?_
            clear hK K
            try simp only [Act.put, List.setIfInBounds_toArray, List.set_cons_zero, List.set_cons_succ]
            refine AllC.one 12 (by kernel_rfl) rfl ?_
            intro wh hh K hK
            have hO := own_below hown8 hh
            refine step_append_row rfl (.tmp 122) (.tmp 127) rfl wg.heap.size elem_chunk (by rfl) hO _ (by rfl) (by rfl) (((hrow.up hg (Nat.le_refl _)).more hg.size).up ((grewA_one hg8).trans hh) (Nat.le_refl _)) (ones_chs [⟨(y1, y2), ⟨A3, k3, bz⟩⟩]) (by unfold maxLen; omega) (by omega) (Nat.le_trans (grewA_one hg8).size hh.size) ?_
            intro Ag kg wA hownA hgA hvA
            have hGA : Grew w7 wA := hg1.trans (grewA_three hg8 hv8 hh hgA)
            refine hK.out _ _ hGA ?_
            have HOg : Hid (wA.ownsRow (w.heap.size + 3) 64 3 (.slice Ag (R.got.length + 1) kg) (R.got.length + 1) (chsC (R.got ++ [⟨(y1, y2), ⟨A3, k3, bz⟩⟩]))) := Lib.hid (own_mono (by rw [chsC_append]; exact hownA) HLg.out)
            clear hK K hga hrow hO hg8 hv8 hownA hgA hvA hown8 hG8 hg1 hIg hg hh
            try simp only [Act.put, List.setIfInBounds_toArray, List.set_cons_zero, List.set_cons_succ]
            refine AllC.head 14 1 (fuel := 2) (by first | exact fun h k => Grew.trans h k | exact fun h k => cls_grew h k) (hGA) (by rfl) (by kernel_rfl) ?_
            simp only [List.take_succ_cons, List.take_zero, List.drop_succ_cons, List.drop_zero]
            repeat (first
              | (refine HeadC.val (by rfl) ?_
                 apply Exists.intro
                 refine ⟨fun w' hw' => ?_, ?_⟩
                 · ((go_simp) <;> (try go_ints) <;> with_reducible rfl)
                 try simp only [Act.put, List.setIfInBounds_toArray, List.set_cons_zero, List.set_cons_succ])
              | (refine HeadC.shut (by rfl) ?_
                 try simp only [Act.put, List.setIfInBounds_toArray, List.set_cons_zero, List.set_cons_succ]))
            refine HeadC.nil ?_
            refine AllC.tail 15 (by rfl) (by kernel_rfl) ?_
            intro wt hwt
            simp only [List.drop_succ_cons, List.drop_zero]
            have hgt := hGA.trans hwt
            replace HO3 := Lib.hid (own_below HO3.out hgt)
            replace HO5 := Lib.hid (own_below HO5.out hgt)
            replace HOg := Lib.hid (own_below HOg.out hwt)
            replace HGW := Lib.hid (HGW.out.trans hgt)
            clear hgt hwt hGA e0 e1 r0' r1' r2' r3'
            have kz := HZ.out.of (show Grew w1 wt from HGW.out)
            have fz0 := kz.frozen 0
            have fz1 := kz.frozen 1
            have fz2 := kz.frozen 2
            have fz3 := kz.frozen 3
            have fz4 := kz.frozen 4
            have q0 := (kz.cell 0).trans (show _ = some (.int .i64 0) from rfl)
            have q1 := (kz.cell 1).trans (show _ = some (.slice none 0 0) from rfl)
            have q2 := (kz.cell 2).trans (show _ = some (.slice none 0 0) from rfl)
            have q3 := (kz.cell 3).trans (show _ = some (.slice none 0 0) from rfl)
            have q4 := (kz.cell 4).trans (show _ = some (.slice none 0 0) from rfl)
            have HFz := Lib.hid (((((kz.set_ 0 (.int .i64 R.n)).set_ 1 (.slice lai R.ids.length lci)).set_ 2 (.slice lah R.had.length lch)).set_ 3 (.slice Ag (R.got.length + 1) kg)).set_ 4 (.slice (some ⟨g5, 0, none⟩) m c5))
            have hCs : Ch (At (w.heap.size + 2)) wt (((((wt.setCell ⟨w.heap.size + 2, 0, none⟩ (.int .i64 R.n)).setCell ⟨w.heap.size + 2, 1, none⟩ (.slice lai R.ids.length lci)).setCell ⟨w.heap.size + 2, 2, none⟩ (.slice lah R.had.length lch)).setCell ⟨w.heap.size + 2, 3, none⟩ (.slice Ag (R.got.length + 1) kg)).setCell ⟨w.heap.size + 2, 4, none⟩ (.slice (some ⟨g5, 0, none⟩) m c5)) := ((((((Ch.refl (At (w.heap.size + 2)) wt).set_at 0 _).set_at 1 _).set_at 2 _).set_at 3 _).set_at 4 _)
            have gW := Grew.trans HG.out (show Grew w1 wt from HGW.out)
            have HGz := Lib.hid (show Grew w _ from Below.trans (B := w.heap.size) gW (hCs.below gW.size (fun i hi => by have h : i = w.heap.size + 2 := hi; omega)))
            replace HO3 := Lib.hid (own_ch HO3.out hCs (fun i hi h => by have h1 := own_lt HO3.out i hi; have h2 : i = w.heap.size + 2 := h; omega))
            replace HO5 := Lib.hid (own_ch HO5.out hCs (fun i hi h => by have h1 := own_lt HO5.out i hi; have h2 : i = w.heap.size + 2 := h; omega))
            replace HOg := Lib.hid (own_ch HOg.out hCs (fun i hi h => by have h1 := own_lt HOg.out i hi; have h2 : i = w.heap.size + 2 := h; omega))
            clear hCs kz gW
            go_wp2_with fail
            have f0 := (HFz.out.cell 0).trans (show _ = some (.int .i64 R.n) from rfl)
            have f1 := (HFz.out.cell 1).trans (show _ = some (.slice lai R.ids.length lci) from rfl)
            have f2 := (HFz.out.cell 2).trans (show _ = some (.slice lah R.had.length lch) from rfl)
            have f3 := (HFz.out.cell 3).trans (show _ = some (.slice Ag (R.got.length + 1) kg) from rfl)
            have f4 := (HFz.out.cell 4).trans (show _ = some (.slice (some ⟨g5, 0, none⟩) m c5) from rfl)
            refine bodyPost_ret (v := .tuple #[.agg #[.int .i64 R.n, .slice lai R.ids.length lci, .slice lah R.had.length lch, .slice Ag (R.got.length + 1) kg, .slice (some ⟨g5, 0, none⟩) m c5], .bool true]) ?_ rfl (refTake_res (L' := ⟨lai, lci, lah, lch, Ag, kg, some ⟨g5, 0, none⟩, c5⟩) (R' := { R with got := R.got ++ [⟨(y1, y2), ⟨A3, k3, bz⟩⟩], pre := R.pre.eraseIdx k }) (by unfold rfV; simp only [List.length_append, List.length_singleton, HEl.out]) HTk.out (HI0.out.done HGz.out (own_row HO5.out) (fun c hc => (HI0.out.up HGz.out).lpre c (List.mem_of_mem_eraseIdx hc)) (own_row HOg.out) (fun c hc => (List.mem_append.1 hc).elim ((HI0.out.up HGz.out).lgot c) (fun h => by rw [List.mem_singleton.1 h]; exact own_row HO3.out))) (HRf.out.done HOk.out ⟨A3, k3, bz⟩ hlt HCe.out) HGz.out (fun D hD => RfAt.done hD (own_at HO5.out (by omega)) (own_at HOg.out (by omega)) (fun _ => own_at HO3.out (by omega)) (own_cap HO3.out).1))
            simp [results, Try.results38, go_sem, f0, f1, f2, f3, f4]
      · have HN2 : Hid (∀ c ∈ R.pre.take (k + 1), c.id ≠ (i1, i2)) := Lib.hid (fun c hc => by
          rw [List.take_succ_eq_append_getElem hlt] at hc
          rcases List.mem_append.1 hc with hc | hc
          · exact HN.out c hc
          · rw [List.mem_singleton] at hc; subst hc; rw [HCk.out]; exact he)
        rcases id_ne he with hne | ⟨rfl, hne⟩
        all_goals
          clear he
          go_wp2_with fail
          go_roundw
          case rel => exact ⟨k + 1, by omega, by go_num, HN2, HGa⟩
          case measure => simp [intOf]; omega
    · obtain rfl : k = R.pre.length := by omega
      have HGW := HGr
      have HXn : Hid ((i1, i2) ∉ r.miss) := Lib.hid (fun h => by
        rw [← HRf.out.pre] at h
        obtain ⟨c, hc, e⟩ := List.mem_map.1 h
        exact HN.out c (by rw [List.take_length]; exact hc) e)
      have HTk : Hid (takeR r 2 (i1, i2) fr zs = (r, false)) := Lib.hid (takeR_bad (by unfold takesP; rintro ⟨_, _, _, t1, _⟩; exact HXn.out t1))
      have kz := HZ.out.of (show Grew w1 wr from HGW.out)
      have fz0 := kz.frozen 0
      have fz1 := kz.frozen 1
      have fz2 := kz.frozen 2
      have fz3 := kz.frozen 3
      have fz4 := kz.frozen 4
      have q0 := (kz.cell 0).trans (show _ = some (.int .i64 0) from rfl)
      have q1 := (kz.cell 1).trans (show _ = some (.slice none 0 0) from rfl)
      have q2 := (kz.cell 2).trans (show _ = some (.slice none 0 0) from rfl)
      have q3 := (kz.cell 3).trans (show _ = some (.slice none 0 0) from rfl)
      have q4 := (kz.cell 4).trans (show _ = some (.slice none 0 0) from rfl)
      have HFz := Lib.hid (((((kz.set_ 0 (.int .i64 R.n)).set_ 1 (.slice lai R.ids.length lci)).set_ 2 (.slice lah R.had.length lch)).set_ 3 (.slice lag R.got.length lcg)).set_ 4 (.slice lap R.pre.length lcp))
      have hCs : Ch (At (w.heap.size + 2)) wr (((((wr.setCell ⟨w.heap.size + 2, 0, none⟩ (.int .i64 R.n)).setCell ⟨w.heap.size + 2, 1, none⟩ (.slice lai R.ids.length lci)).setCell ⟨w.heap.size + 2, 2, none⟩ (.slice lah R.had.length lch)).setCell ⟨w.heap.size + 2, 3, none⟩ (.slice lag R.got.length lcg)).setCell ⟨w.heap.size + 2, 4, none⟩ (.slice lap R.pre.length lcp)) := ((((((Ch.refl (At (w.heap.size + 2)) wr).set_at 0 _).set_at 1 _).set_at 2 _).set_at 3 _).set_at 4 _)
      have gW := Grew.trans HG.out (show Grew w1 wr from HGW.out)
      have HGz := Lib.hid (show Grew w _ from Below.trans (B := w.heap.size) gW (hCs.below gW.size (fun i hi => by have h : i = w.heap.size + 2 := hi; omega)))
      clear hCs kz gW
      go_wp2_with fail
      have f0 := (HFz.out.cell 0).trans (show _ = some (.int .i64 R.n) from rfl)
      have f1 := (HFz.out.cell 1).trans (show _ = some (.slice lai R.ids.length lci) from rfl)
      have f2 := (HFz.out.cell 2).trans (show _ = some (.slice lah R.had.length lch) from rfl)
      have f3 := (HFz.out.cell 3).trans (show _ = some (.slice lag R.got.length lcg) from rfl)
      have f4 := (HFz.out.cell 4).trans (show _ = some (.slice lap R.pre.length lcp) from rfl)
      refine bodyPost_ret (v := .tuple #[.agg #[.int .i64 R.n, .slice lai R.ids.length lci, .slice lah R.had.length lch, .slice lag R.got.length lcg, .slice lap R.pre.length lcp], .bool false]) ?_ rfl (refTake_res rfl HTk.out (HI0.out.up HGz.out) HRf.out HGz.out (fun D hD => hD.weak _))
      simp [results, Try.results38, go_sem, f0, f1, f2, f3, f4]
end Go.Proofs.Ytpoiejgoongllaa

