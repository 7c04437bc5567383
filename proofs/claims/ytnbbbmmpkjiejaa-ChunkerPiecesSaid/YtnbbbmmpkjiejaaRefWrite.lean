/-
  stockyardref24.Write: the complete chunks and what follows them.
-/
import Derived.Test.YtnbbbmmpkjiejaaRefCut
import Derived.Test.YtnbbbmmpkjiejaaFullZ
import Derived.Test.YtnbbbmmpkjiejaaTexts
namespace Go.Proofs.Ytnbbbmmpkjiejaa
set_option linter.unusedVariables false
set_option linter.unusedSimpArgs false
set_option linter.unnecessarySimpa false
open Go.RowKit
attribute [local go_sem ↓] Go.wp_at_zero Go.wp_at_succ

/-- the chunks ls lie ahead of s -/
structure WrZ (c : CutZ) (zs : List Int) (s : Nat) (ls : List Nat) (ps : List Part) : Prop where
  full : ∀ ls' r', FullZ c (zs.drop s) ls' r' → FullZ c zs (ls ++ ls') r'
  cuts : ps.map Part.zs = cutsL ls zs
  sum : ls.sum = s
  len : ps.length ≤ s
theorem WrZ.zero {c : CutZ} {zs : List Int} : WrZ c zs 0 [] [] := ⟨fun _ _ h => h, rfl, rfl, Nat.le_refl _⟩
theorem WrZ.step {c : CutZ} (ok : c.Ok) {zs : List Int} {s e : Nat} {ls : List Nat} {ps : List Part} (h : WrZ c zs s ls ps) (hn : nxtL c (zs.drop s) = some e) {p : Part} (hp : p.zs = (zs.drop s).take e) : WrZ c zs (s + e) (ls ++ [e]) (ps ++ [p]) := by
  refine ⟨fun ls' r' k => ?_, ?_, by rw [List.sum_append, h.sum]; simp, ?_⟩
  · rw [List.append_assoc]
    exact h.full _ _ (.go hn (by rw [List.drop_drop]; exact k))
  · rw [cutsL_snoc, List.map_append, h.cuts, h.sum, List.map_cons, hp]; rfl
  · have := (nxtL_bd ok hn).2.2.2
    have := h.len
    rw [List.length_append]; simp; omega
theorem WrZ.done {c : CutZ} {zs : List Int} {s : Nat} {ls : List Nat} {ps : List Part} (h : WrZ c zs s ls ps) (hn : nxtL c (zs.drop s) = none) : FullZ c zs ls (zs.drop s) := by
  have := h.full _ _ (.stop hn)
  rwa [List.append_nil] at this

/-- what the reference's Write leaves -/
def RefWriteRes (c : CutZ) (zs : List Int) (w : World) (e : Ending) (w' : World) : Prop := ∃ (A : Option Addr) (cap : Nat) (ps : List Part) (ls : List Nat) (r : List Int) (Ar : Option Addr) (cr : Nat),
  e = .returned (.tuple #[.slice A ps.length cap, .slice Ar r.length cr]) ∧ w'.ownsRow w.heap.size 30 1 (.slice A ps.length cap) ps.length (ps.map Part.v) ∧ Txs w' w.heap.size ps ∧ FullZ c zs ls r ∧ ps.map Part.zs = cutsL ls zs ∧
  w'.ownsRow w.heap.size 5 1 (.slice Ar r.length cr) r.length (r.map (.int .u8)) ∧ Below w.heap.size w w'

theorem refWrite_end {c : CutZ} {zs ys : List Int} {ls : List Nat} {ps : List Part} {w w1 w3 : World} {gc n c1 c3 : Nat} {A1 A3 : Option Addr} (hg : w.heap.size = gc) (hF : FullZ c zs ls ys) (hC : ps.map Part.zs = cutsL ls zs) (hl : ys.length = n)
    (hown : w3.ownsRow (gc + 1) 5 1 (.slice A3 (0 + n) c3) (0 + n) ([] ++ ys.map (.int .u8))) (hO : w3.ownsRow (gc + 1) 30 1 (.slice A1 ps.length c1) ps.length (ps.map Part.v)) (hT : Txs w3 (gc + 1) ps) (hb1 : Below gc w w1) (hb : Below (gc + 1) w1 w3) :
    RefWriteRes c zs w (.returned (.tuple #[.slice A1 ps.length c1, .slice A3 n c3])) w3 := by
  subst hg
  subst hl
  rw [Nat.zero_add, List.nil_append] at hown
  exact ⟨A1, c1, ps, ls, ys, A3, c3, rfl, own_mono hO (Nat.le_succ _), hT.mono (Nat.le_succ _), hF, hC, own_mono hown (Nat.le_succ _), Below.trans (B := w.heap.size) hb1 (hb.mono (Nat.le_succ _))⟩

set_option maxHeartbeats 4000000 in
theorem refWrite_any (c : CutZ) (ok : c.Ok) (A : Option Addr) (cap B : Nat) (zs : List Int) (w : World) (hr : Row w B A (zs.map (.int .u8))) (hB : B ≤ w.heap.size) (hz : ∀ z ∈ zs, 0 ≤ z ∧ z ≤ 255) (hm : zs.length ≤ 1048576) (hcap : zs.length ≤ cap) :
    Calls Try.prog 33 #[.agg #[.int .i64 c.mn, .int .i64 c.mx, .int .i64 c.wn, .int .u64 c.mask], .slice A zs.length cap] w (RefWriteRes c zs w) := by
  have g0 := grew_alloc w (.cells #[.int .i64 c.mn, .int .i64 c.mx, .int .i64 c.wn, .int .u64 c.mask] 28)
  have hC1 := CutAt.new w c
  have hr1 := hr.below g0 hB
  have gs : w.heap.size + 1 ≤ (w.alloc (.cells #[.int .i64 c.mn, .int .i64 c.mx, .int .i64 c.wn, .int .u64 c.mask] 28)).heap.size := by simp
  have hb1 : Below w.heap.size w (w.alloc (.cells #[.int .i64 c.mn, .int .i64 c.mx, .int .i64 c.wn, .int .u64 c.mask] 28)) := g0
  have Hz := Lib.hid hz
  have OK := Lib.hid ok
  clear hr hz ok g0
  go_enter Try.func33, Try.ntmps33
  go_wp2_with fail
  generalize w.alloc (.cells #[.int .i64 c.mn, .int .i64 c.mx, .int .i64 c.wn, .int .u64 c.mask] 28) = w1 at *
  generalize hgc : w.heap.size = gc at *
  have HGc := Lib.hid hgc
  clear hgc
  go_loopw [6, 7] (fun v i wr => (∃ (s : Nat) (ls : List Nat) (ps : List Part) (A1 : Option Addr) (c1 : Nat), i = .int .i64 s ∧ s ≤ zs.length ∧ WrZ c zs s ls ps ∧ v = .slice A1 ps.length c1 ∧ wr.ownsRow (gc + 1) 30 1 (.slice A1 ps.length c1) ps.length (ps.map Part.v) ∧ Txs wr (gc + 1) ps) ∧ Below (gc + 1) w1 wr) (fun _ i _ => zs.length - (intOf i).toNat)
  case atStart => exact ⟨⟨0, [], [], none, 0, rfl, Nat.zero_le _, WrZ.zero, rfl, World.ownsRow_nil _ _ _ _, Txs.nil⟩, Below.refl _ _⟩
  case round =>
    obtain ⟨⟨s, ls, ps, A1, c1, rfl, hle, hR, rfl, hown, hT⟩, hb⟩ := hrel
    have hgs : gc + 1 ≤ wr.heap.size := Nat.le_trans gs hb.size
    have hpl := hR.len
    obtain ⟨d0, d1, d2, d3, d4⟩ := CutAt.cells (w := wr) (g := gc) ((hb.block gc (Nat.lt_succ_self _)).trans hC1)
    have HE := Lib.hid (end24_any c OK.out A cap B s zs wr (hr1.below hb (Nat.le_succ_of_le hB)) (by omega) Hz.out hm hcap hle)
    cases hn : nxtL c (zs.drop s) with
    | some e =>
      rw [endV_some hn] at HE
      have hbd := nxtL_bd OK.out hn
      rw [List.length_drop] at hbd
      obtain ⟨_, _, hbd1, hbd2⟩ := hbd
      have HN := Lib.hid hn
      clear hn
      go_wp2_with fail
      refine HE.out.mono ?_
      rintro ee w2 ⟨rfl, hb2⟩
      have hown2 := own_below hown hb2
      have hT2 := hT.of hb2
      have hgs2 := Nat.le_trans hgs hb2.size
      have hbb2 : Below (gc + 1) w1 w2 := Below.trans (B := gc + 1) hb (hb2.mono hgs)
      clear hown hT hb hb2 HE d0 d1 d2 d3 d4
      obtain ⟨ad, rfl, hbd, _⟩ := (hr1.below hbb2 (Nat.le_succ_of_le hB)).at_ (k := s) (by rw [List.length_map]; omega)
      have hcs : ¬ cap = s := by omega
      have hrd := (hr1.below hbb2 (Nat.le_succ_of_le hB)).cut' (lo := s) (m := e) (cap := cap) (by omega)
      rw [if_neg hcs, ← List.map_drop, ← List.map_take] at hrd
      have hll : ((zs.drop s).take e).length = e := by rw [List.length_take, List.length_drop]; omega
      have c1' : (s : Int) ≤ (s : Int) + e := by omega
      have c2' : (s : Int) + e ≤ cap := by omega
      have q1 : (s : Int) + e - s = (e : Int) := by omega
      have q2 : ((s : Int) + e).toNat = s + e := by omega
      have q3 : s + e - s = e := by omega
      have HLL := Lib.hid hll
      have hlm : (((zs.drop s).take e).map (Value.int .u8)).length = e * 1 := by rw [List.length_map, hll, Nat.mul_one]
      generalize hys : (zs.drop s).take e = ys at *
      have HY := Lib.hid hys.symm
      clear hys hll
      go_wp2_with (first
        | (at_builtin; refine wpList_append_row rfl (.const (.slice none 0 0)) (.tmp 28) rfl (gc + 1) elem_u8 (by rfl) (World.ownsRow_nil _ _ _ _) B (by rfl) hlm hrd (ones_u8 _) (by unfold maxLen; omega) (by omega) hgs2 ?_; intro A3 c3 w3 hown3 hg3 _; have hG3 := grew_nil hg3; have hO := own_below hown2 hG3; have hTT := (hT2.of hG3).snoc (Tx.own hown3); have hs3 := Nat.le_trans hgs2 hG3.size; have hb3 := Below.trans (B := gc + 1) hbb2 (hG3.mono hgs2); clear hown3 hg3 hG3 hown2 hT2 hbb2)
        | (at_builtin; refine wpList_append_row rfl (.tmp 24) (.tmp 30) rfl (gc + 1) elem_bytes (by rfl) (hO.alloc _) _ (by rfl) (by rfl) (Blk.row (Blk.new w3 30 #[.slice A3 e c3])) (by simp [Value.oneCell']) (by unfold maxLen; omega) (by omega) (by simp; omega) ?_; intro A4 c4 w4 hown4 hg4 _; have hT4 := (hTT.of (grew_alloc w3 _)).ch (Ch.of_own hg4) (own_noBytes (hO.alloc _) (by decide)); have hb4 : Below (gc + 1) w1 w4 := Below.trans (B := gc + 1) (Below.trans (B := gc + 1) hb3 ((grew_alloc w3 _).mono hs3)) (below_grown hg4 (by simp; omega) (own_lt hO)); clear hg4 hO hTT hb3 hs3))
      go_roundw
      case rel =>
        refine ⟨⟨s + e, ls ++ [e], ps ++ [⟨A3, c3, ys⟩], A4, c4, by go_num, by omega, hR.step OK.out HN.out HY.out, by rw [List.length_append]; rfl, ?_, hT4⟩, hb4⟩
        have hv : Part.v ⟨A3, c3, ys⟩ = .slice A3 e c3 := by unfold Part.v; rw [HLL.out]
        rw [List.length_append, List.map_append, List.map_cons, List.map_nil, hv]
        exact hown4
      case measure => simp [intOf]; omega
    | none =>
      rw [endV_none hn] at HE
      have HF := Lib.hid (hR.done hn)
      have HC := Lib.hid hR.cuts
      clear hn
      go_wp2_with fail
      refine HE.out.mono ?_
      rintro ee w2 ⟨rfl, hb2⟩
      have hown2 := own_below hown hb2
      have hT2 := hT.of hb2
      have hgs2 := Nat.le_trans hgs hb2.size
      have hbb2 : Below (gc + 1) w1 w2 := Below.trans (B := gc + 1) hb (hb2.mono hgs)
      clear hown hT hb hb2 HE d0 d1 d2 d3 d4
      have hrd := (hr1.below hbb2 (Nat.le_succ_of_le hB)).cut' (lo := s) (m := zs.length - s) (cap := cap) (by rw [List.length_map]; omega)
      rw [← List.map_drop, ← List.map_take, List.take_of_length_le (by rw [List.length_drop]; omega)] at hrd
      have hll : (zs.drop s).length = zs.length - s := List.length_drop
      have HLL := Lib.hid hll
      have hlm : ((zs.drop s).map (Value.int .u8)).length = (zs.length - s) * 1 := by rw [List.length_map, hll, Nat.mul_one]
      generalize hys : zs.drop s = ys at *
      clear hys hll
      rcases A with _ | ad
      · have hz0 : zs = [] := by
          rcases hr1 with h | ⟨ad, e, _⟩
          · simpa using h
          · cases e
        subst hz0
        obtain rfl : s = 0 := by simpa using hle
        obtain rfl : ys = [] := List.eq_nil_of_length_eq_zero (by simpa using HLL.out)
        clear hlm hrd
        go_wp2_with fail
        go_ret2
        exact refWrite_end (n := 0) (w3 := w2) HGc.out HF.out HC.out rfl (World.ownsRow_nil _ _ _ _) hown2 hT2 hb1 hbb2
      · by_cases hcs : cap = s
        · rw [if_pos hcs] at hrd
          go_wp2_with (at_builtin; refine wpList_append_row rfl (.const (.slice none 0 0)) (.tmp 22) rfl (gc + 1) elem_u8 (by rfl) (World.ownsRow_nil _ _ _ _) B (by rfl) hlm hrd (ones_u8 _) (by unfold maxLen; omega) (by omega) hgs2 ?_; intro A3 c3 w3 hown3 hg3 _; have hG3 := grew_nil hg3; have hO := own_below hown2 hG3; have hTT := hT2.of hG3; have hb3 := Below.trans (B := gc + 1) hbb2 (hG3.mono hgs2); clear hg3 hG3 hown2 hT2 hbb2)
          go_ret2
          exact refWrite_end HGc.out HF.out HC.out HLL.out hown3 hO hTT hb1 hb3
        · rw [if_neg hcs] at hrd
          go_wp2_with (at_builtin; refine wpList_append_row rfl (.const (.slice none 0 0)) (.tmp 22) rfl (gc + 1) elem_u8 (by rfl) (World.ownsRow_nil _ _ _ _) B (by rfl) hlm hrd (ones_u8 _) (by unfold maxLen; omega) (by omega) hgs2 ?_; intro A3 c3 w3 hown3 hg3 _; have hG3 := grew_nil hg3; have hO := own_below hown2 hG3; have hTT := hT2.of hG3; have hb3 := Below.trans (B := gc + 1) hbb2 (hG3.mono hgs2); clear hg3 hG3 hown2 hT2 hbb2)
          go_ret2
          exact refWrite_end HGc.out HF.out HC.out HLL.out hown3 hO hTT hb1 hb3

end Go.Proofs.Ytnbbbmmpkjiejaa
