/-
  Chunks of a receiver; answer and Serve.
-/
import Derived.Test.YtpoiejgoongllaaDone37
namespace Go.Proofs.Ytpoiejgoongllaa
section
set_option linter.unusedVariables false
set_option linter.unusedSimpArgs false
set_option linter.unnecessarySimpa false
open Go.RowKit
attribute [local go_sem ↓] Go.wp_at_zero Go.wp_at_succ

/-- the bytes of an answer: P37.5 -/
def ansZ (f : Nat) (zs : List Int) : List Int := (zs.drop f).take 1024
def pk0 : Value := .agg #[.int .i64 0, .int .u64 0, .int .i64 0, .int .i64 0, .slice none 0 0]
set_option maxRecDepth 100000 in
set_option maxHeartbeats 1000000 in
theorem answer_no (x : Pk) (b : Part) (w : World) (hf : x.frm < 0 ∨ (b.zs.length : Int) ≤ x.frm) :
    Calls Try.prog 48 #[.agg #[.int .i64 x.kind, .int .u64 x.id.1, .int .i64 x.id.2, .int .i64 x.frm, x.p.v], .slice b.A b.zs.length b.cap] w fun e w' => e = .returned (.tuple #[pk0, .bool false]) ∧ Grew w w' := by
  obtain ⟨k, ⟨i1, i2⟩, f, p⟩ := x
  obtain ⟨bA, bc, zs⟩ := b
  simp only at hf ⊢
  generalize p.v = pv at *
  have g1 := grew_alloc w (.cells #[.int .i64 k, .int .u64 i1, .int .i64 i2, .int .i64 f, pv] 55)
  have k1 := Blk.new w 55 #[.int .i64 k, .int .u64 i1, .int .i64 i2, .int .i64 f, pv]
  generalize hw1 : w.alloc (.cells #[.int .i64 k, .int .u64 i1, .int .i64 i2, .int .i64 f, pv] 55) = w1 at *
  have g2 := grew_alloc w1 (.cells #[.int .i64 0, .int .u64 0, .int .i64 0, .int .i64 0, .slice none 0 0] 55)
  have k2 := Blk.new w1 55 #[.int .i64 0, .int .u64 0, .int .i64 0, .int .i64 0, .slice none 0 0]
  replace k1 := k1.of g2
  have c3 := (k1.cell 3).trans (show _ = some (.int .i64 f) from rfl)
  have hf' := Lib.hid hf
  have gg := Grew.trans g1 g2
  have s1 : w1.heap.size = w.heap.size + 1 := by rw [← hw1]; simp
  rw [s1] at k2
  have y0 := k2.frozen 0
  have y1 := k2.frozen 1
  have y2 := k2.frozen 2
  have y3 := k2.frozen 3
  have y4 := k2.frozen 4
  have q0 := (k2.cell 0).trans (show _ = some (.int .i64 0) from rfl)
  have q1 := (k2.cell 1).trans (show _ = some (.int .u64 0) from rfl)
  have q2 := (k2.cell 2).trans (show _ = some (.int .i64 0) from rfl)
  have q3 := (k2.cell 3).trans (show _ = some (.int .i64 0) from rfl)
  have q4 := (k2.cell 4).trans (show _ = some (.slice none 0 0) from rfl)
  subst hw1
  clear hf g1 g2 k1 s1
  have HG := Lib.hid gg
  have HF := Lib.hid k2
  clear gg k2
  by_cases h0 : f < 0
  · go_enter Try.func48, Try.ntmps48
    go_wp2_with fail
    have f0 := (HF.out.cell 0).trans (show _ = some (.int .i64 0) from rfl)
    have f1 := (HF.out.cell 1).trans (show _ = some (.int .u64 0) from rfl)
    have f2 := (HF.out.cell 2).trans (show _ = some (.int .i64 0) from rfl)
    have f3 := (HF.out.cell 3).trans (show _ = some (.int .i64 0) from rfl)
    have f4 := (HF.out.cell 4).trans (show _ = some (.slice none 0 0) from rfl)
    refine bodyPost_ret (v := .tuple #[pk0, .bool false]) ?_ rfl ⟨rfl, HG.out⟩
    simp [results, Try.results48, go_sem, pk0, f0, f1, f2, f3, f4]
  · have h1 : (zs.length : Int) ≤ f := by have := hf'.out; omega
    go_enter Try.func48, Try.ntmps48
    go_wp2_with fail
    have f0 := (HF.out.cell 0).trans (show _ = some (.int .i64 0) from rfl)
    have f1 := (HF.out.cell 1).trans (show _ = some (.int .u64 0) from rfl)
    have f2 := (HF.out.cell 2).trans (show _ = some (.int .i64 0) from rfl)
    have f3 := (HF.out.cell 3).trans (show _ = some (.int .i64 0) from rfl)
    have f4 := (HF.out.cell 4).trans (show _ = some (.slice none 0 0) from rfl)
    refine bodyPost_ret (v := .tuple #[pk0, .bool false]) ?_ rfl ⟨rfl, HG.out⟩
    simp [results, Try.results48, go_sem, pk0, f0, f1, f2, f3, f4]

set_option maxRecDepth 100000 in
set_option maxHeartbeats 1000000 in
theorem answer_yes (x : Pk) (b : Part) (f : Nat) (w : World) (hr : Row w w.heap.size b.A (b.zs.map (.int .u8))) (hc : b.zs.length ≤ b.cap) (hm : b.zs.length ≤ 4611686018427387904) (hx : x.frm = (f : Int)) (hf : f < b.zs.length) :
    Calls Try.prog 48 #[.agg #[.int .i64 x.kind, .int .u64 x.id.1, .int .i64 x.id.2, .int .i64 x.frm, x.p.v], .slice b.A b.zs.length b.cap] w fun e w' => ∃ A c, e = .returned (.tuple #[pkV ⟨2, x.id, x.frm, ⟨A, c, ansZ f b.zs⟩⟩, .bool true]) ∧
      w'.ownsRow w.heap.size 5 1 (.slice A (ansZ f b.zs).length c) (ansZ f b.zs).length ((ansZ f b.zs).map (.int .u8)) ∧ Grew w w' := by
  obtain ⟨k, ⟨i1, i2⟩, fr, p⟩ := x
  obtain ⟨bA, bc, zs⟩ := b
  simp only at hf hx hr hc hm ⊢
  subst hx
  obtain ⟨ad, rfl, hbl, hcell⟩ : ∃ ad, bA = some ad ∧ ad.block < w.heap.size ∧ ∀ j, j < (zs.map (Value.int .u8)).length → w.cell? (ad.add j) = (zs.map (Value.int .u8))[j]? := by
    rcases hr with h | h
    · have := congrArg List.length h; simp at this; rw [this] at hf; simp at hf
    · exact h
  generalize p.v = pv at *
  have g1 := grew_alloc w (.cells #[.int .i64 k, .int .u64 i1, .int .i64 i2, .int .i64 f, pv] 55)
  have k1 := Blk.new w 55 #[.int .i64 k, .int .u64 i1, .int .i64 i2, .int .i64 f, pv]
  have s1 : (w.alloc (.cells #[.int .i64 k, .int .u64 i1, .int .i64 i2, .int .i64 f, pv] 55)).heap.size = w.heap.size + 1 := by simp
  generalize hw1 : w.alloc (.cells #[.int .i64 k, .int .u64 i1, .int .i64 i2, .int .i64 f, pv] 55) = w1 at *
  have g2 := grew_alloc w1 (.cells #[.int .i64 0, .int .u64 0, .int .i64 0, .int .i64 0, .slice none 0 0] 55)
  have k2 := Blk.new w1 55 #[.int .i64 0, .int .u64 0, .int .i64 0, .int .i64 0, .slice none 0 0]
  replace k1 := k1.of g2
  have c3 := (k1.cell 3).trans (show _ = some (.int .i64 f) from rfl)
  have gg := Grew.trans g1 g2
  rw [s1] at k2
  have s2 : (w1.alloc (.cells #[.int .i64 0, .int .u64 0, .int .i64 0, .int .i64 0, .slice none 0 0] 55)).heap.size = w.heap.size + 2 := by simp [s1]
  subst hw1
  have hrc := hr.cut f 1024
  have hys : ((zs.map (Value.int .u8)).drop f).take 1024 = (ansZ f zs).map (.int .u8) := by unfold ansZ; rw [List.map_take, List.map_drop]
  rw [hys] at hrc
  have hyl : (ansZ f zs).length = min (zs.length - f) 1024 := by unfold ansZ; rw [List.length_take, List.length_drop]; omega
  have hmin : min ((zs.length - f : Nat) : Int) 1024 = ((ansZ f zs).length : Int) := by rw [hyl]; omega
  have hyl2 : (ansZ f zs).length ≤ 1024 := by rw [hyl]; omega
  have hyl3 : (ansZ f zs).length ≤ bc - f := by rw [hyl]; omega
  have hd1 : decide ((f : Int) < 0) = false := by rw [decide_eq_false_iff_not]; omega
  have hd2 : ¬ zs.length ≤ f := by omega
  have hfn : ¬ bc = f := by omega
  have HCl := Lib.hid (cloneB_any (some (ad.add f)) (bc - f) _ (ansZ f zs) _ (hrc.up gg (Nat.le_refl _)) gg.size (by omega))
  generalize ansZ f zs = ys at *
  have hfc : f ≤ zs.length := by omega
  clear hyl hys hrc hr hcell hbl g1 g2 hf
  go_enter Try.func48, Try.ntmps48
  go_wp2_with fail
  refine HCl.out.mono ?_
  rintro e w3 ⟨A, c, rfl, hown, hb⟩
  clear HCl
  replace gg := Grew.trans gg hb
  replace k1 := k1.of hb
  replace k2 := k2.of hb
  rw [s2] at hown
  have e1 := (k1.cell 1).trans (show _ = some (.int .u64 i1) from rfl)
  have e2 := (k1.cell 2).trans (show _ = some (.int .i64 i2) from rfl)
  have e3 := (k1.cell 3).trans (show _ = some (.int .i64 f) from rfl)
  have y0 := k2.frozen 0
  have y1 := k2.frozen 1
  have y2 := k2.frozen 2
  have y3 := k2.frozen 3
  have y4 := k2.frozen 4
  have q0 := (k2.cell 0).trans (show _ = some (.int .i64 0) from rfl)
  have q1 := (k2.cell 1).trans (show _ = some (.int .u64 0) from rfl)
  have q2 := (k2.cell 2).trans (show _ = some (.int .i64 0) from rfl)
  have q3 := (k2.cell 3).trans (show _ = some (.int .i64 0) from rfl)
  have q4 := (k2.cell 4).trans (show _ = some (.slice none 0 0) from rfl)
  have HF := Lib.hid (((((k2.set_ 0 (.int .i64 2)).set_ 1 (.int .u64 i1)).set_ 2 (.int .i64 i2)).set_ 3 (.int .i64 f)).set_ 4 (.slice A ys.length c))
  have hCs : Ch (At (w.heap.size + 1)) w3 (((((w3.setCell ⟨w.heap.size + 1, 0, none⟩ (.int .i64 2)).setCell ⟨w.heap.size + 1, 1, none⟩ (.int .u64 i1)).setCell ⟨w.heap.size + 1, 2, none⟩ (.int .i64 i2)).setCell ⟨w.heap.size + 1, 3, none⟩ (.int .i64 f)).setCell ⟨w.heap.size + 1, 4, none⟩ (.slice A ys.length c)) :=
    (((((Ch.refl (At (w.heap.size + 1)) w3).set_at 0 _).set_at 1 _).set_at 2 _).set_at 3 _).set_at 4 _
  have HG := Lib.hid (show Grew w _ from Below.trans (B := w.heap.size) gg (hCs.below gg.size (fun i hi => by have h : i = w.heap.size + 1 := hi; omega)))
  have HO := Lib.hid (own_mono (own_ch hown hCs (fun i hi h => by have h1 := own_lt hown i hi; have h2 : i = w.heap.size + 1 := h; omega)) (show w.heap.size ≤ w.heap.size + 2 by omega))
  clear hCs gg hown k1 k2 c3 s1 s2 hmin hb hd1 hd2 hyl3
  go_wp2_with fail
  have f0 := (HF.out.cell 0).trans (show _ = some (.int .i64 2) from rfl)
  have f1 := (HF.out.cell 1).trans (show _ = some (.int .u64 i1) from rfl)
  have f2 := (HF.out.cell 2).trans (show _ = some (.int .i64 i2) from rfl)
  have f3 := (HF.out.cell 3).trans (show _ = some (.int .i64 f) from rfl)
  have f4 := (HF.out.cell 4).trans (show _ = some (.slice A ys.length c) from rfl)
  refine bodyPost_ret (v := .tuple #[.agg #[.int .i64 2, .int .u64 i1, .int .i64 i2, .int .i64 f, .slice A ys.length c], .bool true]) ?_ rfl ⟨A, c, rfl, HO.out, HG.out⟩
  simp [results, Try.results48, go_sem, f0, f1, f2, f3, f4]

/-- an answer, or none -/
def ansO (f : Int) (zs : List Int) : Option (List Int) := if f < 0 ∨ (zs.length : Int) ≤ f then none else some (ansZ f.toNat zs)
def AnsRes (o : Option (List Int)) (x : Pk) (w : World) (e : Ending) (w' : World) : Prop := match o with
  | none => e = .returned (.tuple #[pk0, .bool false]) ∧ Grew w w'
  | some ys => ∃ A c, e = .returned (.tuple #[pkV ⟨2, x.id, x.frm, ⟨A, c, ys⟩⟩, .bool true]) ∧ w'.ownsRow w.heap.size 5 1 (.slice A ys.length c) ys.length (ys.map (.int .u8)) ∧ Grew w w'
theorem answer_any (x : Pk) (b : Part) (w : World) (hr : Row w w.heap.size b.A (b.zs.map (.int .u8))) (hc : b.zs.length ≤ b.cap) (hm : b.zs.length ≤ 4611686018427387904) :
    Calls Try.prog 48 #[.agg #[.int .i64 x.kind, .int .u64 x.id.1, .int .i64 x.id.2, .int .i64 x.frm, x.p.v], .slice b.A b.zs.length b.cap] w (AnsRes (ansO x.frm b.zs) x w) := by
  by_cases h : x.frm < 0 ∨ (b.zs.length : Int) ≤ x.frm
  · have e : ansO x.frm b.zs = none := if_pos h
    rw [e]
    exact answer_no x b w h
  · have e : ansO x.frm b.zs = some (ansZ x.frm.toNat b.zs) := if_neg h
    rw [e]
    exact answer_yes x b x.frm.toNat w hr hc hm (by omega) (by omega)
/-- the bytes of the first chunk with an ID -/
def findC (cs : List ChZ) (x : IdZ) : Option (List Int) := (cs.find? fun c => decide (c.id = x)).map fun c => c.p.zs
def srvO (cs : List ChZ) (k : Int) (x : IdZ) (f : Int) : Option (List Int) := if k = 1 then (findC cs x).bind (ansO f) else none
theorem findC_at {cs : List ChZ} {x : IdZ} {k : Nat} (hk : k < cs.length) (he : cs[k].id = x) (hn : ∀ c ∈ cs.take k, c.id ≠ x) : findC cs x = some cs[k].p.zs := by
  unfold findC
  have e : cs = cs.take k ++ (cs[k] :: cs.drop (k + 1)) := by rw [← List.drop_eq_getElem_cons hk, List.take_append_drop]
  have h1 : (cs.take k).find? (fun c => decide (c.id = x)) = none := by
    rw [List.find?_eq_none]
    intro c hc
    simpa using hn c hc
  have h2 : (cs[k] :: cs.drop (k + 1)).find? (fun c => decide (c.id = x)) = some cs[k] := by
    rw [List.find?_cons_of_pos]
    simpa using he
  rw [show cs.find? (fun c => decide (c.id = x)) = some cs[k] by
    conv => lhs; rw [e]
    rw [List.find?_append, h1, h2]; rfl]
  rfl
theorem findC_no {cs : List ChZ} {x : IdZ} (hn : ∀ c ∈ cs, c.id ≠ x) : findC cs x = none := by
  unfold findC
  rw [List.find?_eq_none.2 (fun c hc => by simpa using hn c hc)]
  rfl
/-- the texts of chunks lie in memory -/
def ChsIn (w : World) (cs : List ChZ) : Prop := ∀ c ∈ cs, Row w w.heap.size c.p.A (c.p.zs.map (.int .u8)) ∧ c.p.zs.length ≤ c.p.cap ∧ c.p.zs.length ≤ 4611686018427387904
theorem ChsIn.up {w w' : World} {cs : List ChZ} (h : ChsIn w cs) (k : Grew w w') : ChsIn w' cs := fun c hc => ⟨((h c hc).1.up k (Nat.le_refl _)).more k.size, (h c hc).2⟩

set_option maxRecDepth 100000 in
set_option maxHeartbeats 2000000 in
theorem serve_any (x : Pk) (A : Option Addr) (cap : Nat) (cs : List ChZ) (w : World) (hr : Row w w.heap.size A (chsC cs)) (hin : ChsIn w cs) (hm : cs.length ≤ 9223372036854775807) :
    Calls Try.prog 23 #[.slice A cs.length cap, .agg #[.int .i64 x.kind, .int .u64 x.id.1, .int .i64 x.id.2, .int .i64 x.frm, x.p.v]] w (AnsRes (srvO cs x.kind x.id x.frm) x w) := by
  obtain ⟨k, ⟨i1, i2⟩, f, p⟩ := x
  simp only
  have HANS := Lib.hid (fun (b : Part) W hr hc hm => answer_any ⟨k, (i1, i2), f, p⟩ b W hr hc hm)
  simp only at HANS
  have HPV := Lib.hid (rfl : p.v = p.v)
  have g1 := grew_alloc w (.cells #[.int .i64 k, .int .u64 i1, .int .i64 i2, .int .i64 f, p.v] 55)
  have k1 := Blk.new w 55 #[.int .i64 k, .int .u64 i1, .int .i64 i2, .int .i64 f, p.v]
  have s1 : (w.alloc (.cells #[.int .i64 k, .int .u64 i1, .int .i64 i2, .int .i64 f, p.v] 55)).heap.size = w.heap.size + 1 := by simp
  generalize hw1 : w.alloc (.cells #[.int .i64 k, .int .u64 i1, .int .i64 i2, .int .i64 f, p.v] 55) = w1 at *
  have g2 := grew_alloc w1 (.cells #[.int .i64 0, .int .u64 0, .int .i64 0, .int .i64 0, .slice none 0 0] 55)
  have k2 := Blk.new w1 55 #[.int .i64 0, .int .u64 0, .int .i64 0, .int .i64 0, .slice none 0 0]
  replace k1 := k1.of g2
  rw [s1] at k2
  have c0 := (k1.cell 0).trans (show _ = some (.int .i64 k) from rfl)
  subst hw1
  have gg := Grew.trans g1 g2
  clear g1 g2 s1
  have HK2 := Lib.hid k2
  have HGG := Lib.hid gg
  go_enter Try.func23, Try.ntmps23
  by_cases hk : k = 1
  · subst hk
    go_wp2_with fail
    generalize ((w.alloc (.cells #[.int .i64 1, .int .u64 i1, .int .i64 i2, .int .i64 f, p.v] 55)).alloc (.cells #[.int .i64 0, .int .u64 0, .int .i64 0, .int .i64 0, .slice none 0 0] 55)) = w2 at *
    have hgo : w.heap.size < w.heap.size + 1 := by omega
    generalize hgr : w.heap.size + 1 = gr at *
    generalize hgp : w.heap.size = gp at *
    have HGp := Lib.hid hgp
    have HLo := Lib.hid (show w.heap.size ≤ gr by omega)
    have HP := Lib.hid k1
    have HIN := Lib.hid (fun W (hg : Grew w2 W) => hin.up (gg.trans hg))
    have HR := Lib.hid (fun W (hg : Grew w2 W) => hr.below (gg.trans hg) (by rw [hgp]; exact Nat.le_refl _))
    clear hgr hgp k1 c0 hin hr k2 gg
    go_loopw [14] (fun i wr => ∃ n : Nat, n ≤ cs.length ∧ i = .int .i64 n ∧ Hid (∀ c ∈ cs.take n, c.id ≠ (i1, i2)) ∧ Grew w2 wr) (fun i _ => cs.length - (intOf i).toNat)
    case atStart => exact ⟨0, Nat.zero_le _, rfl, Lib.hid (by simp), Grew.refl _⟩
    case round =>
      obtain ⟨n, hn, rfl, HN, hb⟩ := hrel
      have k1r := HP.out.of hb
      have k2r := HK2.out.of hb
      have hbs := hb.size
      by_cases hlt : n < cs.length
      · obtain ⟨ad, rfl, hbl, d0, d1, d2⟩ := chs_at (HR.out wr hb) hlt
        have hci := HIN.out wr hb _ (List.getElem_mem hlt)
        have HT := Lib.hid (List.take_succ_eq_append_getElem hlt)
        have HF := Lib.hid (fun he => findC_at (x := (i1, i2)) hlt he HN.out)
        generalize cs[n] = c at *
        obtain ⟨⟨j1, j2⟩, bA, bc, zs⟩ := c
        simp only at d0 d1 d2 hci
        obtain ⟨h1, h2, h3⟩ := hci
        have hga := grew_alloc wr (.cells #[.int .u64 j1, .int .i64 j2, .slice bA zs.length bc] 64)
        have kC := Blk.new wr 64 #[.int .u64 j1, .int .i64 j2, .slice bA zs.length bc]
        replace k1r := k1r.of hga
        replace k2r := k2r.of hga
        have hb5 := Grew.trans hb hga
        have h1' := (h1.up hga (Nat.le_refl _)).more hga.size
        clear hga
        have a1 := (k1r.cell 1).trans (show _ = some (.int .u64 i1) from rfl)
        have a2 := (k1r.cell 2).trans (show _ = some (.int .i64 i2) from rfl)
        have b0 := (kC.cell 0).trans (show _ = some (.int .u64 j1) from rfl)
        have b1 := (kC.cell 1).trans (show _ = some (.int .i64 j2) from rfl)
        by_cases he : ((j1, j2) : IdZ) = (i1, i2)
        · have hF := HF.out he
          obtain ⟨rfl, rfl⟩ := Prod.mk.inj he
          have a0 := (k1r.cell 0).trans (show _ = some (.int .i64 1) from rfl)
          have a3 := (k1r.cell 3).trans (show _ = some (.int .i64 f) from rfl)
          have a4 := (k1r.cell 4).trans (show _ = some p.v from rfl)
          have b2 := (kC.cell 2).trans (show _ = some (.slice bA zs.length bc) from rfl)
          have HA := HANS.out ⟨bA, bc, zs⟩ _ h1' h2 h3
          simp only at HA
          have e : srvO cs 1 (j1, j2) f = ansO f zs := by unfold srvO; rw [if_pos rfl, hF]; rfl
          have HE := Lib.hid e
          clear e hF he HF HT
          generalize ansO f zs = o at *
          go_wp2_with fail
          refine HA.mono ?_
          rintro e w3 hres
          cases o with
          | none =>
            obtain ⟨rfl, hg⟩ := hres
            replace k2r := k2r.of hg
            have hgw : Grew w w3 := HGG.out.trans (hb5.trans hg)
            unfold pk0
            have y0 := k2r.frozen 0
            have y1 := k2r.frozen 1
            have y2 := k2r.frozen 2
            have y3 := k2r.frozen 3
            have y4 := k2r.frozen 4
            have q0 := (k2r.cell 0).trans (show _ = some (.int .i64 0) from rfl)
            have q1 := (k2r.cell 1).trans (show _ = some (.int .u64 0) from rfl)
            have q2 := (k2r.cell 2).trans (show _ = some (.int .i64 0) from rfl)
            have q3 := (k2r.cell 3).trans (show _ = some (.int .i64 0) from rfl)
            have q4 := (k2r.cell 4).trans (show _ = some (.slice none 0 0) from rfl)
            have HFs := Lib.hid (((((k2r.set_ 0 (.int .i64 0)).set_ 1 (.int .u64 0)).set_ 2 (.int .i64 0)).set_ 3 (.int .i64 0)).set_ 4 (.slice none 0 0))
            have hCs : Ch (At gr) w3 (((((w3.setCell ⟨gr, 0, none⟩ (.int .i64 0)).setCell ⟨gr, 1, none⟩ (.int .u64 0)).setCell ⟨gr, 2, none⟩ (.int .i64 0)).setCell ⟨gr, 3, none⟩ (.int .i64 0)).setCell ⟨gr, 4, none⟩ (.slice none 0 0)) := ((((((Ch.refl (At gr) w3).set_at 0 (.int .i64 0)).set_at 1 (.int .u64 0)).set_at 2 (.int .i64 0)).set_at 3 (.int .i64 0)).set_at 4 (.slice none 0 0))
            have HGs : Hid (Grew w (((((w3.setCell ⟨gr, 0, none⟩ (.int .i64 0)).setCell ⟨gr, 1, none⟩ (.int .u64 0)).setCell ⟨gr, 2, none⟩ (.int .i64 0)).setCell ⟨gr, 3, none⟩ (.int .i64 0)).setCell ⟨gr, 4, none⟩ (.slice none 0 0))) := Lib.hid (Below.trans (B := w.heap.size) hgw (hCs.below (Below.size hgw) (fun i hi => by have h : i = gr := hi; have := HLo.out; omega)))
            clear hCs
            clear k2r hgw hg k1r a0 a1 a2 a3 a4 b0 b1 b2 kC
            go_wp2_with fail
            rw [HE.out]
            have f0 := (HFs.out.cell 0).trans (show _ = some (.int .i64 0) from rfl)
            have f1 := (HFs.out.cell 1).trans (show _ = some (.int .u64 0) from rfl)
            have f2 := (HFs.out.cell 2).trans (show _ = some (.int .i64 0) from rfl)
            have f3 := (HFs.out.cell 3).trans (show _ = some (.int .i64 0) from rfl)
            have f4 := (HFs.out.cell 4).trans (show _ = some (.slice none 0 0) from rfl)
            refine bodyPost_ret (v := .tuple #[pk0, .bool false]) ?_ rfl ⟨rfl, HGs.out⟩
            simp [results, Try.results23, go_sem, pk0, f0, f1, f2, f3, f4]
          | some ys =>
            obtain ⟨A, c, rfl, hown, hg⟩ := hres
            replace k2r := k2r.of hg
            have hgw : Grew w w3 := HGG.out.trans (hb5.trans hg)
            have hgs : gr < wr.heap.size := by have := HK2.out.lt; omega
            replace hown := own_mono hown (base' := wr.heap.size) (by simp)
            unfold pkV
            unfold Part.v
            have y0 := k2r.frozen 0
            have y1 := k2r.frozen 1
            have y2 := k2r.frozen 2
            have y3 := k2r.frozen 3
            have y4 := k2r.frozen 4
            have q0 := (k2r.cell 0).trans (show _ = some (.int .i64 0) from rfl)
            have q1 := (k2r.cell 1).trans (show _ = some (.int .u64 0) from rfl)
            have q2 := (k2r.cell 2).trans (show _ = some (.int .i64 0) from rfl)
            have q3 := (k2r.cell 3).trans (show _ = some (.int .i64 0) from rfl)
            have q4 := (k2r.cell 4).trans (show _ = some (.slice none 0 0) from rfl)
            have HFs := Lib.hid (((((k2r.set_ 0 (.int .i64 2)).set_ 1 (.int .u64 j1)).set_ 2 (.int .i64 j2)).set_ 3 (.int .i64 f)).set_ 4 (.slice A ys.length c))
            have hCs : Ch (At gr) w3 (((((w3.setCell ⟨gr, 0, none⟩ (.int .i64 2)).setCell ⟨gr, 1, none⟩ (.int .u64 j1)).setCell ⟨gr, 2, none⟩ (.int .i64 j2)).setCell ⟨gr, 3, none⟩ (.int .i64 f)).setCell ⟨gr, 4, none⟩ (.slice A ys.length c)) := ((((((Ch.refl (At gr) w3).set_at 0 (.int .i64 2)).set_at 1 (.int .u64 j1)).set_at 2 (.int .i64 j2)).set_at 3 (.int .i64 f)).set_at 4 (.slice A ys.length c))
            have HGs : Hid (Grew w (((((w3.setCell ⟨gr, 0, none⟩ (.int .i64 2)).setCell ⟨gr, 1, none⟩ (.int .u64 j1)).setCell ⟨gr, 2, none⟩ (.int .i64 j2)).setCell ⟨gr, 3, none⟩ (.int .i64 f)).setCell ⟨gr, 4, none⟩ (.slice A ys.length c))) := Lib.hid (Below.trans (B := w.heap.size) hgw (hCs.below (Below.size hgw) (fun i hi => by have h : i = gr := hi; have := HLo.out; omega)))
            have HOs := Lib.hid (own_ch hown hCs (fun i hi h => by have h1 := own_lt hown i hi; have h2 : i = gr := h; omega))
            clear hCs
            have hwl : w.heap.size ≤ wr.heap.size := by have := HLo.out; omega
            clear k2r hgw hg k1r a0 a1 a2 a3 a4 b0 b1 b2 kC hown
            go_wp2_with fail
            rw [HE.out]
            have f0 := (HFs.out.cell 0).trans (show _ = some (.int .i64 2) from rfl)
            have f1 := (HFs.out.cell 1).trans (show _ = some (.int .u64 j1) from rfl)
            have f2 := (HFs.out.cell 2).trans (show _ = some (.int .i64 j2) from rfl)
            have f3 := (HFs.out.cell 3).trans (show _ = some (.int .i64 f) from rfl)
            have f4 := (HFs.out.cell 4).trans (show _ = some (.slice A ys.length c) from rfl)
            refine bodyPost_ret (v := .tuple #[.agg #[.int .i64 2, .int .u64 j1, .int .i64 j2, .int .i64 f, .slice A ys.length c], .bool true]) ?_ rfl ⟨A, c, rfl, own_mono HOs.out hwl, HGs.out⟩
            simp [results, Try.results23, go_sem, pk0, f0, f1, f2, f3, f4]
        · have HN2 := Lib.hid (show ∀ c ∈ cs.take (n + 1), c.id ≠ (i1, i2) by
            rw [HT.out]
            intro c hc
            rcases List.mem_append.1 hc with h | h
            · exact HN.out c h
            · rw [List.mem_singleton] at h; subst h; exact he)
          rcases id_ne he with hne | ⟨rfl, hne⟩
          · clear he
            go_wp2_with fail
            go_roundw
            case rel => exact ⟨n + 1, by omega, by go_num, HN2, hb5⟩
            case measure => simp [intOf]; omega
          · clear he
            go_wp2_with fail
            go_roundw
            case rel => exact ⟨n + 1, by omega, by go_num, HN2, hb5⟩
            case measure => simp [intOf]; omega
      · obtain rfl : n = cs.length := by omega
        rw [List.take_length] at HN
        have e : srvO cs 1 (i1, i2) f = none := by unfold srvO; rw [if_pos rfl, findC_no HN.out]; rfl
        have HE := Lib.hid e
        have hgw : Grew w wr := HGG.out.trans hb
        have y0 := k2r.frozen 0
        have y1 := k2r.frozen 1
        have y2 := k2r.frozen 2
        have y3 := k2r.frozen 3
        have y4 := k2r.frozen 4
        have q0 := (k2r.cell 0).trans (show _ = some (.int .i64 0) from rfl)
        have q1 := (k2r.cell 1).trans (show _ = some (.int .u64 0) from rfl)
        have q2 := (k2r.cell 2).trans (show _ = some (.int .i64 0) from rfl)
        have q3 := (k2r.cell 3).trans (show _ = some (.int .i64 0) from rfl)
        have q4 := (k2r.cell 4).trans (show _ = some (.slice none 0 0) from rfl)
        have HFs := Lib.hid (((((k2r.set_ 0 (.int .i64 0)).set_ 1 (.int .u64 0)).set_ 2 (.int .i64 0)).set_ 3 (.int .i64 0)).set_ 4 (.slice none 0 0))
        have hCs : Ch (At gr) wr (((((wr.setCell ⟨gr, 0, none⟩ (.int .i64 0)).setCell ⟨gr, 1, none⟩ (.int .u64 0)).setCell ⟨gr, 2, none⟩ (.int .i64 0)).setCell ⟨gr, 3, none⟩ (.int .i64 0)).setCell ⟨gr, 4, none⟩ (.slice none 0 0)) := ((((((Ch.refl (At gr) wr).set_at 0 (.int .i64 0)).set_at 1 (.int .u64 0)).set_at 2 (.int .i64 0)).set_at 3 (.int .i64 0)).set_at 4 (.slice none 0 0))
        have HGs : Hid (Grew w (((((wr.setCell ⟨gr, 0, none⟩ (.int .i64 0)).setCell ⟨gr, 1, none⟩ (.int .u64 0)).setCell ⟨gr, 2, none⟩ (.int .i64 0)).setCell ⟨gr, 3, none⟩ (.int .i64 0)).setCell ⟨gr, 4, none⟩ (.slice none 0 0))) := Lib.hid (Below.trans (B := w.heap.size) hgw (hCs.below (Below.size hgw) (fun i hi => by have h : i = gr := hi; have := HLo.out; omega)))
        clear hCs
        clear k2r hgw k1r e
        go_wp2_with fail
        rw [HE.out]
        have f0 := (HFs.out.cell 0).trans (show _ = some (.int .i64 0) from rfl)
        have f1 := (HFs.out.cell 1).trans (show _ = some (.int .u64 0) from rfl)
        have f2 := (HFs.out.cell 2).trans (show _ = some (.int .i64 0) from rfl)
        have f3 := (HFs.out.cell 3).trans (show _ = some (.int .i64 0) from rfl)
        have f4 := (HFs.out.cell 4).trans (show _ = some (.slice none 0 0) from rfl)
        refine bodyPost_ret (v := .tuple #[pk0, .bool false]) ?_ rfl ⟨rfl, HGs.out⟩
        simp [results, Try.results23, go_sem, pk0, f0, f1, f2, f3, f4]
  · go_wp2_with fail
    have f0 := (HK2.out.cell 0).trans (show _ = some (.int .i64 0) from rfl)
    have f1 := (HK2.out.cell 1).trans (show _ = some (.int .u64 0) from rfl)
    have f2 := (HK2.out.cell 2).trans (show _ = some (.int .i64 0) from rfl)
    have f3 := (HK2.out.cell 3).trans (show _ = some (.int .i64 0) from rfl)
    have f4 := (HK2.out.cell 4).trans (show _ = some (.slice none 0 0) from rfl)
    have e : srvO cs k (i1, i2) f = none := if_neg hk
    rw [e]
    refine bodyPost_ret (v := .tuple #[pk0, .bool false]) ?_ rfl ⟨rfl, HGG.out⟩
    simp [results, Try.results23, go_sem, pk0, f0, f1, f2, f3, f4]
end
end Go.Proofs.Ytpoiejgoongllaa
