/-
  The sender's closure of transfer.Run; transfer.answers.
-/
import Derived.Test.YtpoiejgoongllaaRun37a
namespace Go.Proofs.Ytpoiejgoongllaa
section
set_option linter.unusedVariables false
set_option linter.unusedSimpArgs false
set_option linter.unnecessarySimpa false
open Go.RowKit
attribute [local go_sem ↓] Go.wp_at_zero Go.wp_at_succ

/-- the first chunk with an ID -/
def findP (cs : List ChZ) (x : IdZ) : Option Part := (cs.find? fun c => decide (c.id = x)).map fun c => c.p
theorem findP_C (cs : List ChZ) (x : IdZ) : findC cs x = (findP cs x).map Part.zs := by
  unfold findC findP
  cases cs.find? (fun c => decide (c.id = x)) <;> rfl
theorem findP_mem {cs : List ChZ} {x : IdZ} {p : Part} (h : findP cs x = some p) : ∃ c ∈ cs, c.id = x ∧ c.p = p := by
  unfold findP at h
  cases hf : cs.find? (fun c => decide (c.id = x)) with
  | none => rw [hf] at h; cases h
  | some c =>
    rw [hf] at h
    injection h with h
    have h1 := List.find?_some hf
    simp only [decide_eq_true_eq] at h1
    exact ⟨c, List.mem_of_find?_eq_some hf, h1, h⟩
/-- the sender's map: the first chunk's bytes of each ID -/
def sndM (cs : List ChZ) : IdZ → Option Value := fun x => (findP cs x).map Part.v
set_option maxRecDepth 100000 in
theorem MapIs.look' {w : World} {b n : Nat} {f : IdZ → Option Value} {xs xn : Int} {t e : TypeId} {z : Value} (h : MapIs w b n f) (wx : WfI (xs, xn)) (ht : Try.prog.underlying t = some (.map 53 e)) (hz : (zeroValue e).run Try.prog w = .ok z w) :
    (Instr.lookup t (.map (some b)) (.agg #[.int .u64 xs, .int .i64 xn]) true).run Try.prog w = .ok (.tuple #[(f (xs, xn)).getD z, .bool (f (xs, xn)).isSome]) w := h.look wx ht hz
set_option maxRecDepth 100000 in
set_option maxHeartbeats 1000000 in
theorem clos_no (x : Pk) (gb bm N : Nat) (cs : List ChZ) (w : World) (hb : Blk w gb 94 #[.map (some bm)]) (hm : MapIs w bm N (sndM cs)) (hin : ChsIn w cs) (wx : WfI x.id) (hno : findP cs x.id = none ∨ x.kind ≠ 1) :
    Calls Try.prog 47 #[.agg #[.int .i64 x.kind, .int .u64 x.id.1, .int .i64 x.id.2, .int .i64 x.frm, x.p.v], .pointer (some ⟨gb, 0, none⟩)] w (AnsRes none x w) := by
  obtain ⟨k, ⟨i1, i2⟩, f, p⟩ := x
  simp only at wx hno ⊢
  have g1 := grew_alloc w (.cells #[.int .i64 k, .int .u64 i1, .int .i64 i2, .int .i64 f, p.v] 55)
  have k1 := Blk.new w 55 #[.int .i64 k, .int .u64 i1, .int .i64 i2, .int .i64 f, p.v]
  have s1 : (w.alloc (.cells #[.int .i64 k, .int .u64 i1, .int .i64 i2, .int .i64 f, p.v] 55)).heap.size = w.heap.size + 1 := by simp
  generalize hw1 : w.alloc (.cells #[.int .i64 k, .int .u64 i1, .int .i64 i2, .int .i64 f, p.v] 55) = w1 at *
  have g2 := grew_alloc w1 (.cells #[.int .i64 0, .int .u64 0, .int .i64 0, .int .i64 0, .slice none 0 0] 55)
  have k2 := Blk.new w1 55 #[.int .i64 0, .int .u64 0, .int .i64 0, .int .i64 0, .slice none 0 0]
  replace k1 := k1.of g2
  rw [s1] at k2
  have gg := Grew.trans g1 g2
  have c0 := (k1.cell 0).trans (show _ = some (.int .i64 k) from rfl)
  have c1 := (k1.cell 1).trans (show _ = some (.int .u64 i1) from rfl)
  have c2 := (k1.cell 2).trans (show _ = some (.int .i64 i2) from rfl)
  have c3 := (k1.cell 3).trans (show _ = some (.int .i64 f) from rfl)
  have c4 := (k1.cell 4).trans (show _ = some p.v from rfl)
  have kb := hb.of gg
  have m0 := (kb.cell 0).trans (show _ = some (.map (some bm)) from rfl)
  have hmap := hm.of gg
  have hl := hmap.look' (xs := i1) (xn := i2) wx Try.underlying94 (z := .slice none 0 0) (by kernel_rfl)
  subst hw1
  clear g1 g2 s1
  have HG := Lib.hid gg
  have HIN := Lib.hid (hin.up gg)
  have HK2 := Lib.hid k2
  have HNo := Lib.hid hno
  clear hno
  have HFs := HK2
  have HGs := HG
  clear k2 gg
  by_cases hk : k = 1
  · have hn : sndM cs (i1, i2) = none := by
      rcases HNo.out with h | h
      · unfold sndM; rw [h]; rfl
      · exact absurd hk h
    rw [hn] at hl
    clear hn
    subst hk
    go_enter Try.func47, Try.ntmps47
    go_wp2_with fail
    have f0 := (HFs.out.cell 0).trans (show _ = some (.int .i64 0) from rfl)
    have f1 := (HFs.out.cell 1).trans (show _ = some (.int .u64 0) from rfl)
    have f2 := (HFs.out.cell 2).trans (show _ = some (.int .i64 0) from rfl)
    have f3 := (HFs.out.cell 3).trans (show _ = some (.int .i64 0) from rfl)
    have f4 := (HFs.out.cell 4).trans (show _ = some (.slice none 0 0) from rfl)
    refine bodyPost_ret (v := .tuple #[pk0, .bool false]) ?_ rfl ⟨rfl, HGs.out⟩
    simp [results, Try.results47, go_sem, pk0, f0, f1, f2, f3, f4]
  · have hkd : decide (k = 1) = false := by simp [hk]
    cases hf : sndM cs (i1, i2) with
    | none =>
      rw [hf] at hl
      clear hf
      go_enter Try.func47, Try.ntmps47
      go_wp2_with fail
      have f0 := (HFs.out.cell 0).trans (show _ = some (.int .i64 0) from rfl)
      have f1 := (HFs.out.cell 1).trans (show _ = some (.int .u64 0) from rfl)
      have f2 := (HFs.out.cell 2).trans (show _ = some (.int .i64 0) from rfl)
      have f3 := (HFs.out.cell 3).trans (show _ = some (.int .i64 0) from rfl)
      have f4 := (HFs.out.cell 4).trans (show _ = some (.slice none 0 0) from rfl)
      refine bodyPost_ret (v := .tuple #[pk0, .bool false]) ?_ rfl ⟨rfl, HGs.out⟩
      simp [results, Try.results47, go_sem, pk0, f0, f1, f2, f3, f4]
    | some v =>
      rw [hf] at hl
      clear hf
      go_enter Try.func47, Try.ntmps47
      go_wp2_with fail
      have f0 := (HFs.out.cell 0).trans (show _ = some (.int .i64 0) from rfl)
      have f1 := (HFs.out.cell 1).trans (show _ = some (.int .u64 0) from rfl)
      have f2 := (HFs.out.cell 2).trans (show _ = some (.int .i64 0) from rfl)
      have f3 := (HFs.out.cell 3).trans (show _ = some (.int .i64 0) from rfl)
      have f4 := (HFs.out.cell 4).trans (show _ = some (.slice none 0 0) from rfl)
      refine bodyPost_ret (v := .tuple #[pk0, .bool false]) ?_ rfl ⟨rfl, HGs.out⟩
      simp [results, Try.results47, go_sem, pk0, f0, f1, f2, f3, f4]
set_option maxRecDepth 100000 in
set_option maxHeartbeats 1000000 in
theorem clos_yes (x : Pk) (gb bm N : Nat) (cs : List ChZ) (w : World) (hb : Blk w gb 94 #[.map (some bm)]) (hm : MapIs w bm N (sndM cs)) (hin : ChsIn w cs) (wx : WfI x.id) (b : Part) (hp : findP cs x.id = some b) (hk : x.kind = 1) :
    Calls Try.prog 47 #[.agg #[.int .i64 x.kind, .int .u64 x.id.1, .int .i64 x.id.2, .int .i64 x.frm, x.p.v], .pointer (some ⟨gb, 0, none⟩)] w (AnsRes (ansO x.frm b.zs) x w) := by
  obtain ⟨k, ⟨i1, i2⟩, f, p⟩ := x
  simp only at wx hp hk ⊢
  subst hk
  have g1 := grew_alloc w (.cells #[.int .i64 1, .int .u64 i1, .int .i64 i2, .int .i64 f, p.v] 55)
  have k1 := Blk.new w 55 #[.int .i64 1, .int .u64 i1, .int .i64 i2, .int .i64 f, p.v]
  have s1 : (w.alloc (.cells #[.int .i64 1, .int .u64 i1, .int .i64 i2, .int .i64 f, p.v] 55)).heap.size = w.heap.size + 1 := by simp
  generalize hw1 : w.alloc (.cells #[.int .i64 1, .int .u64 i1, .int .i64 i2, .int .i64 f, p.v] 55) = w1 at *
  have g2 := grew_alloc w1 (.cells #[.int .i64 0, .int .u64 0, .int .i64 0, .int .i64 0, .slice none 0 0] 55)
  have k2 := Blk.new w1 55 #[.int .i64 0, .int .u64 0, .int .i64 0, .int .i64 0, .slice none 0 0]
  replace k1 := k1.of g2
  rw [s1] at k2
  have gg := Grew.trans g1 g2
  have c0 := (k1.cell 0).trans (show _ = some (.int .i64 1) from rfl)
  have c1 := (k1.cell 1).trans (show _ = some (.int .u64 i1) from rfl)
  have c2 := (k1.cell 2).trans (show _ = some (.int .i64 i2) from rfl)
  have c3 := (k1.cell 3).trans (show _ = some (.int .i64 f) from rfl)
  have c4 := (k1.cell 4).trans (show _ = some p.v from rfl)
  have kb := hb.of gg
  have m0 := (kb.cell 0).trans (show _ = some (.map (some bm)) from rfl)
  have hmap := hm.of gg
  have hl := hmap.look' (xs := i1) (xn := i2) wx Try.underlying94 (z := .slice none 0 0) (by kernel_rfl)
  subst hw1
  clear g1 g2 s1
  have HG := Lib.hid gg
  have HIN := Lib.hid (hin.up gg)
  have HK2 := Lib.hid k2
  have hn : sndM cs (i1, i2) = some b.v := by unfold sndM; rw [hp]; rfl
  rw [hn] at hl
  clear hn
  obtain ⟨c', hc', _, hcp⟩ := findP_mem hp
  have hci := HIN.out c' hc'
  rw [hcp] at hci
  obtain ⟨h1, h2, h3⟩ := hci
  have HA := Lib.hid (answer_any ⟨1, (i1, i2), f, p⟩ b _ h1 h2 h3)
  simp only at HA
  obtain ⟨bA, bc, zs⟩ := b
  rw [show Part.v ⟨bA, bc, zs⟩ = .slice bA zs.length bc from rfl] at hl
  simp only at HA ⊢
  clear h1 h2 h3 hcp hc' hp
  generalize p.v = pv at *
  generalize ansO f zs = o at *
  have hgr : w.heap.size < w.heap.size + 1 := by omega
  generalize hgq : w.heap.size + 1 = gr at *
  have HLo := Lib.hid (show w.heap.size ≤ gr by omega)
  clear gg k2
  go_enter Try.func47, Try.ntmps47
  go_wp2_with fail
  refine HA.out.mono ?_
  clear HA c0 c1 c2 c3 c4 kb m0 hl hmap k1
  rintro e w3 hres
  cases o with
  | none =>
    obtain ⟨rfl, hg⟩ := hres
    have k2r := HK2.out.of hg
    have hgw : Grew w w3 := HG.out.trans hg
    unfold pk0
    have y0 := k2r.frozen 0
    have y1 := k2r.frozen 1
    have y2 := k2r.frozen 2
    have y3 := k2r.frozen 3
    have y4 := k2r.frozen 4
    have q0 := (k2r.cell 0).trans (show _ = some (.int .i64 0) from rfl)
    have q1 := (k2r.cell 1).trans (show _ = some (.int .u64 0) from rfl)
    have q2 := (k2r.cell 2).trans (show _ = some (.int .i64 0) from rfl)
    have q3 := (k2r.cell 3).trans (show _ = some (.int .i64 0) from rfl)
    have q4 := (k2r.cell 4).trans (show _ = some (.slice none 0 0) from rfl)
    have HFs := Lib.hid (((((k2r.set_ 0 (.int .i64 0)).set_ 1 (.int .u64 0)).set_ 2 (.int .i64 0)).set_ 3 (.int .i64 0)).set_ 4 (.slice none 0 0))
    have hCs : Ch (At gr) w3 (((((w3.setCell ⟨gr, 0, none⟩ (.int .i64 0)).setCell ⟨gr, 1, none⟩ (.int .u64 0)).setCell ⟨gr, 2, none⟩ (.int .i64 0)).setCell ⟨gr, 3, none⟩ (.int .i64 0)).setCell ⟨gr, 4, none⟩ (.slice none 0 0)) := ((((((Ch.refl (At gr) w3).set_at 0 (.int .i64 0)).set_at 1 (.int .u64 0)).set_at 2 (.int .i64 0)).set_at 3 (.int .i64 0)).set_at 4 (.slice none 0 0))
    have HGs : Hid (Grew w (((((w3.setCell ⟨gr, 0, none⟩ (.int .i64 0)).setCell ⟨gr, 1, none⟩ (.int .u64 0)).setCell ⟨gr, 2, none⟩ (.int .i64 0)).setCell ⟨gr, 3, none⟩ (.int .i64 0)).setCell ⟨gr, 4, none⟩ (.slice none 0 0))) := Lib.hid (Below.trans (B := w.heap.size) hgw (hCs.below (Below.size hgw) (fun i hi => by have h : i = gr := hi; have := HLo.out; omega)))
    clear hCs
    clear k2r hgw hg
    go_wp2_with fail
    have f0 := (HFs.out.cell 0).trans (show _ = some (.int .i64 0) from rfl)
    have f1 := (HFs.out.cell 1).trans (show _ = some (.int .u64 0) from rfl)
    have f2 := (HFs.out.cell 2).trans (show _ = some (.int .i64 0) from rfl)
    have f3 := (HFs.out.cell 3).trans (show _ = some (.int .i64 0) from rfl)
    have f4 := (HFs.out.cell 4).trans (show _ = some (.slice none 0 0) from rfl)
    refine bodyPost_ret (v := .tuple #[pk0, .bool false]) ?_ rfl ⟨rfl, HGs.out⟩
    simp [results, Try.results47, go_sem, pk0, f0, f1, f2, f3, f4]
  | some ys =>
    obtain ⟨A, c, rfl, hown, hg⟩ := hres
    have k2r := HK2.out.of hg
    have hgw : Grew w w3 := HG.out.trans hg
    have hs0 : ((w.alloc (.cells #[.int .i64 1, .int .u64 i1, .int .i64 i2, .int .i64 f, pv] 55)).alloc (.cells #[.int .i64 0, .int .u64 0, .int .i64 0, .int .i64 0, .slice none 0 0] 55)).heap.size = gr + 1 := by simp; omega
    rw [hs0] at hown
    unfold pkV Part.v
    simp only
    have y0 := k2r.frozen 0
    have y1 := k2r.frozen 1
    have y2 := k2r.frozen 2
    have y3 := k2r.frozen 3
    have y4 := k2r.frozen 4
    have q0 := (k2r.cell 0).trans (show _ = some (.int .i64 0) from rfl)
    have q1 := (k2r.cell 1).trans (show _ = some (.int .u64 0) from rfl)
    have q2 := (k2r.cell 2).trans (show _ = some (.int .i64 0) from rfl)
    have q3 := (k2r.cell 3).trans (show _ = some (.int .i64 0) from rfl)
    have q4 := (k2r.cell 4).trans (show _ = some (.slice none 0 0) from rfl)
    have HFs := Lib.hid (((((k2r.set_ 0 (.int .i64 2)).set_ 1 (.int .u64 i1)).set_ 2 (.int .i64 i2)).set_ 3 (.int .i64 f)).set_ 4 (.slice A ys.length c))
    have hCs : Ch (At gr) w3 (((((w3.setCell ⟨gr, 0, none⟩ (.int .i64 2)).setCell ⟨gr, 1, none⟩ (.int .u64 i1)).setCell ⟨gr, 2, none⟩ (.int .i64 i2)).setCell ⟨gr, 3, none⟩ (.int .i64 f)).setCell ⟨gr, 4, none⟩ (.slice A ys.length c)) := ((((((Ch.refl (At gr) w3).set_at 0 (.int .i64 2)).set_at 1 (.int .u64 i1)).set_at 2 (.int .i64 i2)).set_at 3 (.int .i64 f)).set_at 4 (.slice A ys.length c))
    have HGs : Hid (Grew w (((((w3.setCell ⟨gr, 0, none⟩ (.int .i64 2)).setCell ⟨gr, 1, none⟩ (.int .u64 i1)).setCell ⟨gr, 2, none⟩ (.int .i64 i2)).setCell ⟨gr, 3, none⟩ (.int .i64 f)).setCell ⟨gr, 4, none⟩ (.slice A ys.length c))) := Lib.hid (Below.trans (B := w.heap.size) hgw (hCs.below (Below.size hgw) (fun i hi => by have h : i = gr := hi; have := HLo.out; omega)))
    have HOs := Lib.hid (own_ch hown hCs (fun i hi h => by have h1 := own_lt hown i hi; have h2 : i = gr := h; omega))
    clear hCs
    clear k2r hgw hg hown hs0
    go_wp2_with fail
    have f0 := (HFs.out.cell 0).trans (show _ = some (.int .i64 2) from rfl)
    have f1 := (HFs.out.cell 1).trans (show _ = some (.int .u64 i1) from rfl)
    have f2 := (HFs.out.cell 2).trans (show _ = some (.int .i64 i2) from rfl)
    have f3 := (HFs.out.cell 3).trans (show _ = some (.int .i64 f) from rfl)
    have f4 := (HFs.out.cell 4).trans (show _ = some (.slice A ys.length c) from rfl)
    refine bodyPost_ret (v := .tuple #[.agg #[.int .i64 2, .int .u64 i1, .int .i64 i2, .int .i64 f, .slice A ys.length c], .bool true]) ?_ rfl ⟨A, c, rfl, own_mono HOs.out (by have := HLo.out; omega), HGs.out⟩
    simp [results, Try.results47, go_sem, pk0, f0, f1, f2, f3, f4]
theorem clos37_any (x : Pk) (gb bm N : Nat) (cs : List ChZ) (w : World) (hb : Blk w gb 94 #[.map (some bm)]) (hm : MapIs w bm N (sndM cs)) (hin : ChsIn w cs) (wx : WfI x.id) :
    Calls Try.prog 47 #[.agg #[.int .i64 x.kind, .int .u64 x.id.1, .int .i64 x.id.2, .int .i64 x.frm, x.p.v], .pointer (some ⟨gb, 0, none⟩)] w (AnsRes (srvO cs x.kind x.id x.frm) x w) := by
  by_cases hk : x.kind = 1
  · cases hf : findP cs x.id with
    | none =>
      have e : srvO cs x.kind x.id x.frm = none := by unfold srvO; rw [if_pos hk, findP_C, hf]; rfl
      rw [e]
      exact clos_no x gb bm N cs w hb hm hin wx (.inl hf)
    | some b =>
      have e : srvO cs x.kind x.id x.frm = ansO x.frm b.zs := by unfold srvO; rw [if_pos hk, findP_C, hf]; rfl
      rw [e]
      exact clos_yes x gb bm N cs w hb hm hin wx b hf hk
  · have e : srvO cs x.kind x.id x.frm = none := if_neg hk
    rw [e]
    exact clos_no x gb bm N cs w hb hm hin wx (.inr hk)
end
end Go.Proofs.Ytpoiejgoongllaa
