/-
  slices.Insert of one packet.
-/
import Derived.Test.YtpoiejgoongllaaIns37a
namespace Go.Proofs.Ytpoiejgoongllaa
section
set_option linter.unusedVariables false
set_option linter.unusedSimpArgs false
set_option linter.unnecessarySimpa false
open Go.RowKit
attribute [local go_sem ↓] Go.wp_at_zero Go.wp_at_succ

/-- l with x ahead of place i -/
def insP (l : List Pk) (i : Nat) (x : Pk) : List Pk := l.take i ++ x :: l.drop i
theorem insP_length (l : List Pk) (i : Nat) (x : Pk) : (insP l i x).length = l.length + 1 := by
  unfold insP; rw [List.length_append, List.length_cons, List.length_take, List.length_drop]; omega
theorem pksC_one (x : Pk) : pksC [x] = pkC x := by simp [pksC]
theorem pksC_take (l : List Pk) (i : Nat) : (pksC l).take (i * 5) = pksC (l.take i) := flat_take (f := pkC) (c := 5) (fun _ => rfl) _ _
theorem pksC_drop (l : List Pk) (i : Nat) : (pksC l).drop (i * 5) = pksC (l.drop i) := flat_drop (f := pkC) (c := 5) (fun _ => rfl) _ _
theorem pksC_ins (l : List Pk) (i : Nat) (x : Pk) : pksC (insP l i x) = (pksC l).take (i * 5) ++ pkC x ++ (pksC l).drop (i * 5) := by
  rw [pksC_take, pksC_drop]
  unfold insP
  rw [pksC_append, show x :: l.drop i = [x] ++ l.drop i from rfl, pksC_append, pksC_one, List.append_assoc]
theorem ones_pk (x : Pk) : ∀ u ∈ pkC x, u.oneCell' = true := fun u hu => ones_pks [x] u (by rw [pksC_one]; exact hu)

def InsRes (g n base i : Nat) (l : List Pk) (x : Pk) (w : World) (e : Ending) (w' : World) : Prop := ∃ A c, e = .returned (.slice A (n + 1) c) ∧
  w'.ownsRow base 55 5 (.slice A (n + 1) c) (n + 1) (pksC (insP l i x)) ∧ Ch (At g) w w'

set_option maxRecDepth 100000 in
set_option maxHeartbeats 1000000 in
theorem insert_end (g n cap base vb : Nat) (l : List Pk) (x : Pk) (w : World) (hown : w.ownsRow base 55 5 (.slice (some ⟨g, 0, none⟩) n cap) n (pksC l)) (hl : l.length = n)
    (kV : Blk w vb 55 (pkC x).toArray) (hn : n ≤ 16777216) (hbase : base ≤ w.heap.size) :
    Calls Try.prog 82 #[.slice (some ⟨g, 0, none⟩) n cap, .int .i64 n, .slice (some ⟨vb, 0, none⟩) 1 1] w (InsRes g n base n l x w) := by
  obtain ⟨hc1, hc2⟩ := own_cap hown
  have HK := Lib.hid kV.row
  clear kV
  go_enter Try.func82, Try.ntmps82
  go_wp2_with (at_builtin; refine wpList_append_row rfl (.tmp 23) (.tmp 24) rfl base elem_pk (by rfl) hown _ (by rfl) (by rfl) HK.out (ones_pk x) (by unfold maxLen; omega) (by omega) (by first | omega | (simp; omega)) ?_; intro A' c' w' hown' hg hwh)
  all_goals
    go_ret
    refine ⟨A', c', rfl, ?_, ?_⟩
    · rw [pksC_ins, ← hl, List.take_of_length_le (by rw [pksC_len]; omega), List.drop_of_length_le (by rw [pksC_len]; omega), List.append_nil, hl]
      exact hown'
    · exact Ch.of_grown hg

set_option maxRecDepth 100000 in
set_option maxHeartbeats 1000000 in
theorem insert_grow (g n base i vb : Nat) (l : List Pk) (x : Pk) (w : World) (hown : w.ownsRow base 55 5 (.slice (some ⟨g, 0, none⟩) n n) n (pksC l)) (hl : l.length = n)
    (kV : Blk w vb 55 (pkC x).toArray) (hi : i < n) (hn : n ≤ 16777216) (hbase : base ≤ w.heap.size) :
    Calls Try.prog 82 #[.slice (some ⟨g, 0, none⟩) n n, .int .i64 i, .slice (some ⟨vb, 0, none⟩) 1 1] w (InsRes g n base i l x w) := by
  have hz2 : ¬ ((i : Int) = (n : Int)) := by omega
  have hkk : (n : Int) + 1 - (i : Int) = ((n + 1 - i : Nat) : Int) := by omega
  have hin : i ≤ n := by omega
  have hbw : g < w.heap.size := (hown.lt g rfl).2
  have HX := run_append_zeros_own (P := Try.prog) (tn := 3) (ty := 49) base elem_pk (kn := .i64) (by kernel_rfl) hown (i := i) (k := n + 1 - i) hin (by omega) (by omega) (by omega) (by omega) hbase hkk
  obtain ⟨G, w1, ys, hrz, hown1, hys, hb1⟩ := HX
  rw [show i + (n + 1 - i) = n + 1 by omega] at hrz hown1
  obtain ⟨hG1, hG2⟩ := own_cap hown1
  have hGi : ¬ G = i := by omega
  have hGi1 : ¬ G = i + 1 := by omega
  have hvl := kV.lt
  have hcell : ∀ j v, (pkC x)[j]? = some v → w1.cell? ((⟨vb, 0, none⟩ : Addr).add j) = some v := fun j v hj => by
    rw [Addr.add_lit, Nat.zero_add]
    refine ((kV.of hb1).cell j).trans ?_
    rw [List.getElem?_toArray]
    exact hj
  obtain ⟨w2, hcp1, hown2, hg2⟩ := run_copy_own (P := Try.prog) (ty := 3) base elem_pk hown1 (k := i) (m := 1) (dLen := n + 1 - i) (sLen := 1) (by omega) (by simp only [Nat.min_def]; split <;> omega) ⟨vb, 0, none⟩ 1 (G - i) (pkC x) rfl hcell (ones_pk x)
  have hsrc2 : ∀ W, Below w.heap.size w W → ∀ j v, ((pksC l).drop (i * 5))[j]? = some v → W.cell? ((⟨g, i * 5, none⟩ : Addr).add j) = some v := fun W hW j v hj => by
    rw [List.getElem?_drop] at hj
    rw [Addr.add_lit]
    refine (hW.cell (p := ⟨g, i * 5 + j, none⟩) hbw).trans ?_
    exact (hown.cellAt _ (by rw [← hown.1]; exact (List.getElem?_eq_some_iff.1 hj).1)).trans hj
  have HS2 := Lib.hid hsrc2
  have hb2 : Below w.heap.size w w2 := hb1.grown hg2 hb1.size (fun k hk => by injection hk with hk; omega)
  have HB := Lib.hid hb2
  have HOwn := Lib.hid hown
  generalize hgh : w.heap.size = gh at *
  have HGh := Lib.hid hgh
  clear hkk hsrc2 hcell hb1 hown hgh
  go_enter Try.func82, Try.ntmps82
  go_wp2_with (at_builtin; refine Lib.wpList_append_run _ rfl _ _ _ _ rfl _ _ rfl rfl _ _ hrz ?_)
  have hw1 : IntKind.i64.wrap ((i : Int) + 1) = (i : Int) + 1 := Go.IntWalk.i64_in _ (by omega)
  have q2 : (i : Int) + 1 ≤ (n : Int) + 1 := by omega
  have q3 : 0 ≤ (i : Int) + 1 := by omega
  have q4 : ((i : Int) + 1).toNat = i + 1 := by omega
  have q5 : ¬ (n = i) := by omega
  have q6 : (i : Int) ≤ (n : Int) := by omega
  have hx0 := Ch.refl (At gh) w2
  have HOwn2 := Lib.hid hown2
  clear hrz hcp1 hown1 hown2 hb2 hg2
  refine wp_region_cls (Ch (At gh) w2) 8 (by kernel_rfl) ?_
  have hc0 := hx0.drew
  refine AllC.head 0 8 (fuel := 1) (by first | exact fun h k => Grew.trans h k | exact fun h k => cls_grew h k) (hc0) (by rfl) (by kernel_rfl) ?_
  simp only [List.take_succ_cons, List.take_zero, List.drop_succ_cons, List.drop_zero]
  repeat (first
    | (refine HeadC.val (by rfl) ?_
       apply Exists.intro
       refine ⟨fun w' hw' => ?_, ?_⟩
       · (have hf_0 := hc0; (go_simp) <;> (try go_ints) <;> with_reducible rfl)
       try simp only [Act.put, List.setIfInBounds_toArray, List.set_cons_zero, List.set_cons_succ])
    | (refine HeadC.shut (by rfl) ?_
       try simp only [Act.put, List.setIfInBounds_toArray, List.set_cons_zero, List.set_cons_succ]))
  refine HeadC.nil ?_
  refine AllC.tail 8 (by rfl) (by kernel_rfl) ?_
  intro wt hwt
  simp only [List.drop_succ_cons, List.drop_zero]
  have hbt : Below gh w wt := HB.out.trans ((grew_drew w2).trans hwt |>.mono (by have := HB.out.size; have := HGh.out; omega))
  have hownt := own_below HOwn2.out ((grew_drew w2).trans hwt)
  have hdl : ((pksC l).drop (i * 5)).length = (n - i) * 5 := by rw [List.length_drop, pksC_len, hl, Nat.sub_mul]
  obtain ⟨w3, hcp3, hown3, hg3⟩ := run_copy_own (P := Try.prog) (ty := 3) base elem_pk hownt (k := i + 1) (m := n - i) (dLen := n + 1 - (i + 1)) (sLen := n - i) (by omega) (by simp only [Nat.min_def]; split <;> omega) ⟨g, i * 5, none⟩ (n - i) (G - (i + 1)) ((pksC l).drop (i * 5)) hdl (HS2.out wt hbt) (fun v hv => ones_pks l v (List.mem_of_mem_drop hv))
  have hbE : Below gh w w3 := hbt.grown hg3 (by have := hbt.size; have := HGh.out; omega) (fun k hk => by injection hk with hk; omega)
  have HB3 := Lib.hid hbE
  have HO3 := Lib.hid hown3
  clear hwt hc0 hx0 hbt hownt hbE hown3 hg3
  rw [show n + 1 - (i + 1) = n - i by omega] at hcp3
  refine wpList_copy_run37 rfl _ _ _ _ rfl _ _ rfl rfl hcp3 ?_
  go_wp2
  go_ret
  refine ⟨_, _, rfl, ?_, Ch.of_below (by rw [HGh.out]; exact HB3.out)⟩
  have hE : ((ys.take (i * 5) ++ pkC x ++ ys.drop ((i + 1) * 5)).take ((i + 1) * 5) ++ (pksC l).drop (i * 5) ++ (ys.take (i * 5) ++ pkC x ++ ys.drop ((i + 1) * 5)).drop ((i + 1 + (n - i)) * 5)) = pksC (insP l i x) := by
    have h5 : (pkC x).length = 5 := rfl
    have hyl : (ys.take (i * 5)).length = i * 5 := by rw [hys, List.length_take, pksC_len, hl]; omega
    have hA : (ys.take (i * 5) ++ pkC x).length = (i + 1) * 5 := by rw [List.length_append, hyl, h5]; omega
    rw [pksC_ins, ← hys]
    have hB : (ys.take (i * 5) ++ pkC x ++ ys.drop ((i + 1) * 5)).length ≤ (n + 1) * 5 := Nat.le_of_eq HOwn2.out.1
    rw [List.take_append_of_le_length (by rw [hA]; exact Nat.le_refl _), List.take_of_length_le (by rw [hA]; exact Nat.le_refl _), List.drop_of_length_le (Nat.le_trans hB (by omega)), List.append_nil]
  rw [← hE]
  exact HO3.out

theorem shape_blk {w : World} {g : Nat} {t : TypeId} {cs : Array Value} (h : Blk w g t cs) : w.shape? g = some (t, cs.size) := by
  unfold World.shape?
  rw [show w.heap[g]? = some (.cells cs t (0, 0)) from h]
theorem shape_own {w : World} {base : Nat} {e : TypeId} {size g n cap : Nat} {xs : List Value} (h : w.ownsRow base e size (.slice (some ⟨g, 0, none⟩) n cap) n xs) : w.shape? g = some (e, cap * size) := by
  rcases h.2 with ⟨h', _⟩ | ⟨g', cap', cur, h', hb, hg, hnc, hcm, hcs, htake⟩
  · simp at h'
  · simp only [Value.slice.injEq, Option.some.injEq, Addr.mk.injEq, and_true, true_and] at h'
    obtain ⟨rfl, rfl⟩ := h'
    unfold World.shape?
    rw [hg]
    simp only
    rw [hcs]
set_option maxRecDepth 100000 in
set_option maxHeartbeats 1000000 in
theorem insert_shift (g n cap base i vb : Nat) (l : List Pk) (x : Pk) (w : World) (hown : w.ownsRow base 55 5 (.slice (some ⟨g, 0, none⟩) n cap) n (pksC l)) (hl : l.length = n)
    (kV : Blk w vb 55 (pkC x).toArray) (hne : vb ≠ g) (hi : i < n) (hcap : n + 1 ≤ cap) (hn : n ≤ 16777216) (hbase : base ≤ w.heap.size) :
    Calls Try.prog 82 #[.slice (some ⟨g, 0, none⟩) n cap, .int .i64 i, .slice (some ⟨vb, 0, none⟩) 1 1] w (InsRes g n base i l x w) := by
  obtain ⟨hc1, hc2⟩ := own_cap hown
  have hz2 : ¬ ((i : Int) = (n : Int)) := by omega
  have hin : i ≤ n := by omega
  have hbw : g < w.heap.size := (hown.lt g rfl).2
  have hov : ∀ W, Grew w W → ∀ lb cb, (callFunc 88 #[.slice (some ⟨vb, 0, none⟩) 1 1, .slice (some ⟨g, (i + 1) * 5, none⟩) lb cb]).run Try.prog W = .ok (.value (.bool false)) W := fun W hW lb cb => by
    rw [run_callFunc_extern Try.func88 (by kernel_rfl) (by kernel_rfl) (by kernel_rfl) (e := Extern.SlicesOverlaps.overlaps #[49, 49] #[4]) (by kernel_rfl)]
    rw [Lib.run_overlaps_apart W 49 4 55 Try.underlying49 5 (fun w => by kernel_rfl) ⟨vb, 0, none⟩ ⟨g, (i + 1) * 5, none⟩ 1 1 lb cb hne 55 55 5 (cap * 5) (shape_blk (kV.of hW)) (shape_own (own_below hown hW)) (by omega) ((kV.of hW).frozen 0) ((kV.of hW).frozen 5)]
    rfl
  have HOv := Lib.hid hov
  have hov0 := hov w (Grew.refl _)
  have HOwn := Lib.hid hown
  have HV := Lib.hid kV
  obtain ⟨ys, hown1, hys⟩ := own_spare hown (m := n + 1) (by omega) hcap
  have HOwn1 := Lib.hid hown1
  have hw1 : IntKind.i64.wrap ((i : Int) + 1) = (i : Int) + 1 := Go.IntWalk.i64_in _ (by omega)
  have q1 : (n : Int) + 1 ≤ (cap : Int) := by omega
  have q2 : (i : Int) + 1 ≤ (n : Int) + 1 := by omega
  have q3 : 0 ≤ (i : Int) + 1 := by omega
  have q4 : ((i : Int) + 1).toNat = i + 1 := by omega
  have q5 : ¬ cap = i + 1 := by omega
  have q6 : (i : Int) ≤ (n : Int) + 1 := by omega
  have q7 : ¬ cap = i := by omega
  clear hown kV hown1 hov
  go_enter Try.func82, Try.ntmps82
  go_wp2_with (simp only [hov0])
  have hx0 := Ch.refl (At g) w
  refine wp_region_cls (Ch (At g) w) 8 (by kernel_rfl) ?_
  have hc0 := hx0.drew
  refine AllC.head 0 8 (fuel := 1) (by first | exact fun h k => Grew.trans h k | exact fun h k => cls_grew h k) (hc0) (by rfl) (by kernel_rfl) ?_
  simp only [List.take_succ_cons, List.take_zero, List.drop_succ_cons, List.drop_zero]
  repeat (first
    | (refine HeadC.val (by rfl) ?_
       apply Exists.intro
       refine ⟨fun w' hw' => ?_, ?_⟩
       · (have hf_0 := hc0; (go_simp) <;> (try go_ints) <;> with_reducible rfl)
       try simp only [Act.put, List.setIfInBounds_toArray, List.set_cons_zero, List.set_cons_succ])
    | (refine HeadC.shut (by rfl) ?_
       try simp only [Act.put, List.setIfInBounds_toArray, List.set_cons_zero, List.set_cons_succ]))
  refine HeadC.nil ?_
  refine AllC.tail 8 (by rfl) (by kernel_rfl) ?_
  intro wt hwt
  simp only [List.drop_succ_cons, List.drop_zero]
  have hg1 : Grew w wt := (grew_drew w).trans hwt
  have hownt := own_below HOwn1.out hg1
  have hdl : ((pksC l).drop (i * 5)).length = (n - i) * 5 := by rw [List.length_drop, pksC_len, hl, Nat.sub_mul]
  have hsrc : ∀ j v, ((pksC l).drop (i * 5))[j]? = some v → wt.cell? ((⟨g, i * 5, none⟩ : Addr).add j) = some v := fun j v hj => by
    rw [List.getElem?_drop] at hj
    rw [Addr.add_lit]
    refine (hg1.cell (p := ⟨g, i * 5 + j, none⟩) hbw).trans ?_
    exact (HOwn.out.cellAt _ (by rw [← HOwn.out.1]; exact (List.getElem?_eq_some_iff.1 hj).1)).trans hj
  obtain ⟨w3, hcp3, hown3, hg3⟩ := run_copy_own (P := Try.prog) (ty := 3) base elem_pk hownt (k := i + 1) (m := n - i) (dLen := n + 1 - (i + 1)) (sLen := n + 1 - i) (by omega) (by simp only [Nat.min_def]; split <;> omega) ⟨g, i * 5, none⟩ (cap - i) (cap - (i + 1)) ((pksC l).drop (i * 5)) hdl hsrc (fun v hv => ones_pks l v (List.mem_of_mem_drop hv))
  have hc3 : Ch (At g) w w3 := ((Ch.refl (At g) w).next hg1).trans (Ch.of_grown hg3)
  have hV3 := HV.out.ch hc3 hne
  have hcell : ∀ j v, (pkC x)[j]? = some v → w3.cell? ((⟨vb, 0, none⟩ : Addr).add j) = some v := fun j v hj => by
    rw [Addr.add_lit, Nat.zero_add]
    refine (hV3.cell j).trans ?_
    rw [List.getElem?_toArray]
    exact hj
  obtain ⟨w4, hcp4, hown4, hg4⟩ := run_copy_own (P := Try.prog) (ty := 3) base elem_pk hown3 (k := i) (m := 1) (dLen := n + 1 - i) (sLen := 1) (by omega) (by simp only [Nat.min_def]; split <;> omega) ⟨vb, 0, none⟩ 1 (cap - i) (pkC x) rfl hcell (ones_pk x)
  have HC := Lib.hid (hc3.trans (Ch.of_grown hg4))
  have HO4 := Lib.hid hown4
  clear hwt hc0 hx0 hownt hg1 hown3 hg3 hown4 hg4 hcell hV3 hc3 hsrc hov0
  rw [show n + 1 - (i + 1) = n - i by omega] at hcp3
  refine wpList_copy_run37 rfl _ _ _ _ rfl _ _ rfl rfl hcp3 ?_
  go_wp2
  go_ret
  refine ⟨_, _, rfl, ?_, HC.out⟩
  have hE : ((ys.take ((i + 1) * 5) ++ (pksC l).drop (i * 5) ++ ys.drop ((i + 1 + (n - i)) * 5)).take (i * 5) ++ pkC x ++ (ys.take ((i + 1) * 5) ++ (pksC l).drop (i * 5) ++ ys.drop ((i + 1 + (n - i)) * 5)).drop ((i + 1) * 5)) = pksC (insP l i x) := by
    have hyl := HOwn1.out.1
    have h1 : (ys.take ((i + 1) * 5)).length = (i + 1) * 5 := by rw [List.length_take]; omega
    have h2 : ys.drop ((i + 1 + (n - i)) * 5) = [] := List.drop_of_length_le (by omega)
    rw [h2, List.append_nil, pksC_ins, List.take_append_of_le_length (by omega), List.take_take, Nat.min_eq_left (by omega), List.drop_append, h1, Nat.sub_self, List.drop_zero, List.drop_of_length_le (by omega), List.nil_append, ← hys, List.take_take, Nat.min_eq_left (by omega)]
  rw [← hE]
  exact HO4.out
theorem insert_pk (g n cap base i vb : Nat) (l : List Pk) (x : Pk) (w : World) (hown : w.ownsRow base 55 5 (.slice (some ⟨g, 0, none⟩) n cap) n (pksC l)) (hl : l.length = n)
    (kV : Blk w vb 55 (pkC x).toArray) (hne : vb ≠ g) (hi : i ≤ n) (hn : n ≤ 16777216) (hbase : base ≤ w.heap.size) :
    Calls Try.prog 82 #[.slice (some ⟨g, 0, none⟩) n cap, .int .i64 i, .slice (some ⟨vb, 0, none⟩) 1 1] w (InsRes g n base i l x w) := by
  obtain ⟨hc1, hc2⟩ := own_cap hown
  rcases Nat.lt_or_ge i n with h | h
  · rcases Nat.lt_or_ge n cap with hc | hc
    · exact insert_shift g n cap base i vb l x w hown hl kV hne h hc hn hbase
    · obtain rfl : cap = n := by omega
      exact insert_grow g cap base i vb l x w hown hl kV h hn hbase
  · obtain rfl : i = n := by omega
    exact insert_end g i cap base vb l x w hown hl kV hn hbase
end
end Go.Proofs.Ytpoiejgoongllaa
