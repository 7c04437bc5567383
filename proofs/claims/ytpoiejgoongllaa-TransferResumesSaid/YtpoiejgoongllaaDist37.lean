/-
  transfer.disturb.
-/
import Derived.Test.YtpoiejgoongllaaPks37
namespace Go.Proofs.Ytpoiejgoongllaa
section
set_option linter.unusedVariables false
set_option linter.unusedSimpArgs false
set_option linter.unnecessarySimpa false
open Go.RowKit
attribute [local go_sem ↓] Go.wp_at_zero Go.wp_at_succ

/-- packets that a function returns, in memory of its own -/
def CarRes (base : Nat) (zs : List PkZ) (w : World) (e : Ending) (w' : World) : Prop := ∃ A c ql, e = .returned (.slice A (List.length (α := Pk) ql) c) ∧ ql.map Pk.z = zs ∧ PksIs w' base A c ql ∧ Below base w w'
theorem strike_lose {l : List PkZ} {i : Nat} {b : Int} (h : i < l.length) : strike l ⟨1, i, b⟩ = l.eraseIdx i := by
  unfold strike
  rw [dif_pos ⟨by simp only; omega, by simpa using h⟩]
  simp

set_option maxRecDepth 100000 in
set_option maxHeartbeats 1000000 in
theorem disturb_lose (g m c i base : Nat) (l : List Pk) (b : Int) (w : World) (h : PksIs w base (some ⟨g, 0, none⟩) c l) (hm : l.length = m + 1) (hi : i ≤ m) (hn : m ≤ 16777215) (hbase : base ≤ w.heap.size) :
    Calls Try.prog 72 #[.slice (some ⟨g, 0, none⟩) (m + 1 : Nat) c, .agg #[.int .i64 1, .int .i64 i, .int .i64 b]] w (CarRes base (strike (l.map Pk.z) ⟨1, i, b⟩) w) := by
  obtain ⟨hown, hpo⟩ := h
  rw [hm] at hown
  have ga := grew_alloc w (.cells #[.int .i64 1, .int .i64 i, .int .i64 b] 93)
  have kF := Blk.new w 93 #[.int .i64 1, .int .i64 i, .int .i64 b]
  have c0 := (kF.cell 0).trans (show _ = some (.int .i64 1) from rfl)
  have c1 := (kF.cell 1).trans (show _ = some (.int .i64 i) from rfl)
  have hw1 : IntKind.i64.wrap ((i : Int) + 1) = (i : Int) + 1 := Go.IntWalk.i64_in _ (by omega)
  have HD := Lib.hid (delete_pk g m c base i l _ (own_below hown ga) hi)
  have HP := Lib.hid (hpo.of ga)
  go_enter Try.func72, Try.ntmps72
  go_wp2_with fail
  refine HD.out.mono ?_
  rintro e w2 ⟨rfl, hown2, hc2⟩
  have hgl : g < w.heap.size := (hown.lt g rfl).2
  have hpo2 := (HP.out.ch hc2 (fun x hx i hi e => by
    have e2 : i = g := e
    subst e2
    exact PksIs.apart (A := some ⟨i, 0, none⟩) (c := c) ⟨by rw [hm]; exact hown, hpo⟩ hx hi rfl)).erase i
  have hb : Below base w w2 := Below.trans (B := base) (ga.mono hbase) (hc2.below (by simp; omega) (fun k hk => by have e2 : k = g := hk; subst e2; exact own_lt hown _ rfl))
  have he : (l.eraseIdx i).length = m := by rw [List.length_eraseIdx]; split <;> omega
  have HE := Lib.hid he
  clear hown hpo ga kF c0 c1 HD hc2
  go_wp2_with fail
  go_ret
  refine ⟨some ⟨g, 0, none⟩, c, l.eraseIdx i, by rw [HE.out]; rfl, ?_, ⟨by rw [HE.out]; exact hown2, hpo2⟩, hb⟩
  rw [strike_lose (by rw [List.length_map]; omega), List.eraseIdx_eq_take_drop_succ, List.eraseIdx_eq_take_drop_succ, List.map_append, List.map_take, List.map_drop]

theorem strike_none {l : List PkZ} {k i b : Int} (h1 : k ≠ 1) (h2 : k ≠ 2) (h3 : k ≠ 3) (h4 : k ≠ 4) : strike l ⟨k, i, b⟩ = l := by
  unfold strike
  split
  · simp [h1, h2, h3, h4]
  · rfl
set_option maxRecDepth 100000 in
set_option maxHeartbeats 1000000 in
theorem disturb_none (A : Option Addr) (c base : Nat) (k i b : Int) (l : List Pk) (w : World) (h : PksIs w base A c l) (hbase : base ≤ w.heap.size) (h1 : k ≠ 1) (h2 : k ≠ 2) (h3 : k ≠ 3) (h4 : k ≠ 4) :
    Calls Try.prog 72 #[.slice A l.length c, .agg #[.int .i64 k, .int .i64 i, .int .i64 b]] w (CarRes base (strike (l.map Pk.z) ⟨k, i, b⟩) w) := by
  have ga := grew_alloc w (.cells #[.int .i64 k, .int .i64 i, .int .i64 b] 93)
  have kF := Blk.new w 93 #[.int .i64 k, .int .i64 i, .int .i64 b]
  have c0 := (kF.cell 0).trans (show _ = some (.int .i64 k) from rfl)
  have HH := Lib.hid (h.of ga)
  go_enter Try.func72, Try.ntmps72
  go_wp2_with fail
  go_ret
  refine ⟨A, c, l, rfl, ?_, HH.out, ga.mono hbase⟩
  rw [strike_none h1 h2 h3 h4]

theorem pks_lit {w : World} {B g : Nat} {l : List Pk} (hr : Row w B (some ⟨g, 0, none⟩) (pksC l)) {k : Nat} (h : k < l.length) :
    w.cell? ⟨g, k * 5, none⟩ = some (.int .i64 l[k].kind) ∧ w.cell? ⟨g, k * 5 + 1, none⟩ = some (.int .u64 l[k].id.1) ∧ w.cell? ⟨g, k * 5 + 2, none⟩ = some (.int .i64 l[k].id.2) ∧ w.cell? ⟨g, k * 5 + 3, none⟩ = some (.int .i64 l[k].frm) ∧ w.cell? ⟨g, k * 5 + 4, none⟩ = some (.slice l[k].p.A l[k].p.zs.length l[k].p.cap) := by
  obtain ⟨ad, hA, _, d⟩ := pks_at hr h
  obtain rfl : (⟨g, 0, none⟩ : Addr) = ad := by injection hA
  simp only [Addr.add_lit, Nat.zero_add] at d
  exact d
theorem strike_repeat {l : List PkZ} {i : Nat} {b : Int} (h : i < l.length) : strike l ⟨2, i, b⟩ = l.take (i + 1) ++ l[i] :: l.drop (i + 1) := by
  unfold strike
  rw [dif_pos ⟨by simp only; omega, by simpa using h⟩]
  simp
set_option maxRecDepth 100000 in
set_option maxHeartbeats 1000000 in
theorem disturb_repeat (g c i base : Nat) (l : List Pk) (b : Int) (w : World) (h : PksIs w base (some ⟨g, 0, none⟩) c l) (hi : i < l.length) (hn : l.length ≤ 16777215) (hz : ∀ x ∈ l, x.p.zs.length ≤ 70368744177664) (hbase : base ≤ w.heap.size) :
    Calls Try.prog 72 #[.slice (some ⟨g, 0, none⟩) l.length c, .agg #[.int .i64 2, .int .i64 i, .int .i64 b]] w (CarRes base (strike (l.map Pk.z) ⟨2, i, b⟩) w) := by
  have ga := grew_alloc w (.cells #[.int .i64 2, .int .i64 i, .int .i64 b] 93)
  have kF := Blk.new w 93 #[.int .i64 2, .int .i64 i, .int .i64 b]
  have HI := Lib.hid (h.of ga)
  have hgl : g < w.heap.size := (h.row.lt g rfl).2
  have hs0 := ga.size
  have HG0 := Lib.hid (ga.mono hbase)
  have hw1 : IntKind.i64.wrap ((i : Int) + 1) = (i : Int) + 1 := Go.IntWalk.i64_in _ (by omega)
  have hiI : (i : Int) < (l.length : Int) := by omega
  have hS := Lib.hid (strike_repeat (l := l.map Pk.z) (i := i) (b := b) (by rw [List.length_map]; exact hi))
  clear h ga
  go_enter Try.func72, Try.ntmps72
  have c0 := (kF.cell 0).trans (show _ = some (.int .i64 2) from rfl)
  have c1 := (kF.cell 1).trans (show _ = some (.int .i64 i) from rfl)
  go_wp2_with fail
  generalize w.alloc (.cells #[.int .i64 2, .int .i64 i, .int .i64 b] 93) = w1 at *
  obtain ⟨d0, d1, d2, d3, d4⟩ := pks_lit (own_row HI.out.row) hi
  have hxm := List.getElem_mem hi
  have hzx := hz _ hxm
  have hrx := own_row (HI.out.own.own _ hxm)
  have HX := Lib.hid (rfl : l[i] = l[i])
  generalize hx : l[i] = x at *
  obtain ⟨k, ⟨i1, i2⟩, f, ⟨bA, bc, zs⟩⟩ := x
  simp only at d0 d1 d2 d3 d4 hzx hrx
  refine wp_region_g 11 (by kernel_rfl) ?_
  refine AllC.head 0 9 (fuel := 4) (by first | exact fun h k => Grew.trans h k | exact fun h k => cls_grew h k) (grew_drew _) (by rfl) (by kernel_rfl) ?_
  simp only [List.take_succ_cons, List.take_zero, List.drop_succ_cons, List.drop_zero]
  repeat (first
    | (refine HeadC.val (by rfl) ?_
       apply Exists.intro
       refine ⟨fun w' hw' => ?_, ?_⟩
       · (have hf_0 := cell_up hw' c1; have hf_1 := cell_up hw' d0; have hf_2 := cell_up hw' d1; have hf_3 := cell_up hw' d2; have hf_4 := cell_up hw' d3; have hf_5 := cell_up hw' d4; (go_simp) <;> (try go_ints) <;> with_reducible rfl)
       try simp only [Act.put, List.setIfInBounds_toArray, List.set_cons_zero, List.set_cons_succ])
    | (refine HeadC.shut (by rfl) ?_
       try simp only [Act.put, List.setIfInBounds_toArray, List.set_cons_zero, List.set_cons_succ]))
  refine HeadC.nil ?_
  refine AllC.one 9 (by kernel_rfl) rfl ?_
  intro wg hg K hK
  go_simp
  have hg1 : Grew w1 wg := (grew_drew w1).trans hg
  refine (copied_any ⟨k, (i1, i2), f, ⟨bA, bc, zs⟩⟩ wg (hrx.below hg1 (Nat.le_refl _) |>.more hg1.size) hzx).mono ?_
  rintro e w3 ⟨A', c', rfl, hown3, hg3⟩
  have hgA := hg1.trans hg3
  have hs1 := hg1.size
  refine hK.out _ _ hgA ?_
  clear hK K hg hg1 hg3
  generalize wg.heap.size = B1 at *
  clear wg
  try simp only [Act.put, List.setIfInBounds_toArray, List.set_cons_zero, List.set_cons_succ]
  refine AllC.one 10 (by kernel_rfl) rfl ?_
  intro wg hg K hK
  go_simp
  have gV := grew_alloc wg (.cells #[.int .i64 k, .int .u64 i1, .int .i64 i2, .int .i64 f, .slice A' zs.length c'] 55)
  have kV := Blk.new wg 55 #[.int .i64 k, .int .u64 i1, .int .i64 i2, .int .i64 f, .slice A' zs.length c']
  have hgB := Grew.trans hgA (Grew.trans hg gV)
  replace hown3 := own_below hown3 (hg.trans gV)
  have hs2 := hg.size
  have hs3 := hgA.size
  refine hK.out _ _ hgB ?_
  clear hK K hg gV hgA
  generalize wg.alloc (.cells #[.int .i64 k, .int .u64 i1, .int .i64 i2, .int .i64 f, .slice A' zs.length c'] 55) = w4 at *
  generalize wg.heap.size = vb at *
  clear wg
  try simp only [Act.put, List.setIfInBounds_toArray, List.set_cons_zero, List.set_cons_succ]
  refine AllC.tail 11 (by rfl) (by kernel_rfl) ?_
  intro wt hwt
  simp only [List.drop_succ_cons, List.drop_zero]
  have hgT := Grew.trans hgB hwt
  have hIt := HI.out.of hgT
  have kVt := kV.of hwt
  have hownt := own_below hown3 hwt
  have hne : vb ≠ g := by omega
  have hbT : Below base w wt := Below.trans (B := base) HG0.out (hgT.mono (by omega))
  have HC := insert_pk g l.length c base (i + 1) vb l ⟨k, (i1, i2), f, ⟨A', c', zs⟩⟩ wt hIt.row rfl kVt hne (by omega) (by omega) (by have := hbT.size; omega)
  have HC' := Lib.hid HC
  have HPO := Lib.hid (hIt.own.of (Grew.refl _))
  have hlo : ∀ y ∈ l, ∀ q, y.p.v.ownBlock = some q → q < B1 := fun y hy q hq => by have := (HI.out.own.lt hy q hq).2; omega
  have HN : Hid (PkOwn wt base (insP l (i + 1) ⟨k, (i1, i2), f, ⟨A', c', zs⟩⟩)) := Lib.hid (hIt.own.ins (x := ⟨k, (i1, i2), f, ⟨A', c', zs⟩⟩) (i + 1) hlo (by omega) hownt)
  have hgo : ∀ q, (Value.slice A' zs.length c').ownBlock = some q → q ≠ g := fun q hq h => by have := own_lt hownt q hq; omega
  have HNg : Hid (∀ x ∈ insP l (i + 1) ⟨k, (i1, i2), f, ⟨A', c', zs⟩⟩, ∀ q, x.p.v.ownBlock = some q → ¬ At g q) := Lib.hid (fun x hx q hq h => by
    have h2 : q = g := h
    subst h2
    unfold insP at hx
    rcases List.mem_append.1 hx with hx | hx
    · exact hIt.apart (List.mem_of_mem_take hx) hq rfl
    · rcases List.mem_cons.1 hx with rfl | hx
      · exact hgo q hq rfl
      · exact hIt.apart (List.mem_of_mem_drop hx) hq rfl)
  have HBT := Lib.hid hbT
  have hgb : base ≤ g := own_lt hIt.row g rfl
  clear HC hIt kV kVt hownt hown3 hgT hgB hwt hlo hgo hbT d0 d1 d2 d3 d4 c0 c1 kF
  go_wp2_with fail
  refine HC'.out.mono ?_
  rintro e w5 ⟨A5, c5, rfl, hown5, hc5⟩
  have hpo5 := HN.out.ch hc5 HNg.out
  have hb5 : Below base w w5 := Below.trans (B := base) HBT.out (hc5.below (by have := HBT.out.size; omega) (fun q hq => by have h2 : q = g := hq; omega))
  have HO5 := Lib.hid hown5
  clear hown5 hc5
  go_wp2_with fail
  go_ret
  refine ⟨A5, c5, insP l (i + 1) ⟨k, (i1, i2), f, ⟨A', c', zs⟩⟩, by rw [insP_length]; rfl, ?_, ⟨by rw [insP_length]; exact HO5.out, hpo5⟩, hb5⟩
  rw [hS.out]
  unfold insP
  rw [List.map_append, List.map_cons, List.map_take, List.map_drop, List.getElem_map, hx]
  rfl

theorem strike_flip {l : List PkZ} {i n : Nat} (h : i < l.length) (hn : n / 8 < l[i].zs.length) : strike l ⟨4, i, n⟩ = l.set i (l[i].flip n) := by
  unfold strike
  rw [dif_pos ⟨by simp only; omega, by simpa using h⟩]
  have h2 : ((n : Int) / 8) < (l[i].zs.length : Int) := by omega
  simp [h2]
theorem strike_flip_no {l : List PkZ} {i : Nat} {b : Int} (h : i < l.length) (hn : ¬ (0 ≤ b ∧ b / 8 < (l[i].zs.length : Int))) : strike l ⟨4, i, b⟩ = l := by
  unfold strike
  rw [dif_pos ⟨by simp only; omega, by simpa using h⟩]
  simp only [Int.toNat_natCast]
  rw [if_neg (by decide), if_neg (by decide), if_neg (by decide), if_pos trivial, if_neg hn]
set_option maxRecDepth 100000 in
set_option maxHeartbeats 1000000 in
theorem disturb_flip_no (g c i base : Nat) (l : List Pk) (b : Int) (w : World) (h : PksIs w base (some ⟨g, 0, none⟩) c l) (hi : i < l.length) (hn : ¬ (0 ≤ b ∧ b / 8 < (l[i].p.zs.length : Int))) (hbb : b ≤ 9223372036854775807) (hlen : l.length ≤ 16777215) (hbase : base ≤ w.heap.size) :
    Calls Try.prog 72 #[.slice (some ⟨g, 0, none⟩) l.length c, .agg #[.int .i64 4, .int .i64 i, .int .i64 b]] w (CarRes base (strike (l.map Pk.z) ⟨4, i, b⟩) w) := by
  have ga := grew_alloc w (.cells #[.int .i64 4, .int .i64 i, .int .i64 b] 93)
  have kF := Blk.new w 93 #[.int .i64 4, .int .i64 i, .int .i64 b]
  have hI := h.of ga
  have HI := Lib.hid hI
  have c0 := (kF.cell 0).trans (show _ = some (.int .i64 4) from rfl)
  have c1 := (kF.cell 1).trans (show _ = some (.int .i64 i) from rfl)
  have c2 := (kF.cell 2).trans (show _ = some (.int .i64 b) from rfl)
  have hiI : (i : Int) < (l.length : Int) := by omega
  obtain ⟨d0, d1, d2, d3, d4⟩ := pks_lit (own_row hI.row) hi
  have hS := Lib.hid (strike_flip_no (l := l.map Pk.z) (i := i) (b := b) (by rw [List.length_map]; exact hi) (by rw [List.getElem_map]; exact hn))
  have HB := Lib.hid (ga.mono hbase)
  clear h ga hI kF d0 d1 d2 d3
  generalize l[i].p.zs.length = zl at *
  generalize l[i].p.A = pA at *
  generalize l[i].p.cap = pc at *
  by_cases h0 : 0 ≤ b
  · obtain ⟨n, rfl⟩ : ∃ n : Nat, b = n := ⟨b.toNat, by omega⟩
    have hn2 : ¬ ((n : Int) / 8 < (zl : Int)) := fun h => hn ⟨h0, h⟩
    have hn3 : decide ((n : Int) / 8 < (zl : Int)) = false := by simp [hn2]
    have hwr : wrap64 ((n : Int) / 8) = (n : Int) / 8 := Go.IntWalk.wrap64_in _ (by omega)
    clear hn
    go_enter Try.func72, Try.ntmps72
    go_wp2_with fail
    go_quiet (fail)
    go_wp2
    go_ret
    exact ⟨some ⟨g, 0, none⟩, c, l, rfl, hS.out.symm, HI.out.of (grew_drawn ⟨_, rfl⟩), Below.trans (B := base) HB.out ((grew_drawn ⟨_, rfl⟩).mono (Nat.le_trans hbase HB.out.size))⟩
  · have h1 : decide (0 ≤ b) = false := by simp [h0]
    clear hn d4
    go_enter Try.func72, Try.ntmps72
    go_wp2_with fail
    go_quiet (fail)
    go_wp2
    go_ret
    exact ⟨some ⟨g, 0, none⟩, c, l, rfl, hS.out.symm, HI.out.of (grew_drawn ⟨_, rfl⟩), Below.trans (B := base) HB.out ((grew_drawn ⟨_, rfl⟩).mono (Nat.le_trans hbase HB.out.size))⟩

set_option maxRecDepth 100000 in
set_option maxHeartbeats 200000 in
theorem disturb_flip (g c i base n : Nat) (l : List Pk) (w : World) (h : PksIs w base (some ⟨g, 0, none⟩) c l) (hi : i < l.length) (hn : n / 8 < l[i].p.zs.length) (hz : l[i].p.zs.length ≤ 70368744177664) (hlen : l.length ≤ 16777215) (hbase : base ≤ w.heap.size) :
    Calls Try.prog 72 #[.slice (some ⟨g, 0, none⟩) l.length c, .agg #[.int .i64 4, .int .i64 i, .int .i64 n]] w (CarRes base (strike (l.map Pk.z) ⟨4, i, n⟩) w) := by
  have ga := grew_alloc w (.cells #[.int .i64 4, .int .i64 i, .int .i64 n] 93)
  have kF := Blk.new w 93 #[.int .i64 4, .int .i64 i, .int .i64 n]
  have hI := h.of ga
  have HI := Lib.hid hI
  have c0 := (kF.cell 0).trans (show _ = some (.int .i64 4) from rfl)
  have c1 := (kF.cell 1).trans (show _ = some (.int .i64 i) from rfl)
  have c2 := (kF.cell 2).trans (show _ = some (.int .i64 n) from rfl)
  have hiI : (i : Int) < (l.length : Int) := by omega
  obtain ⟨d0, d1, d2, d3, d4⟩ := pks_lit (own_row hI.row) hi
  have hS := Lib.hid (strike_flip (l := l.map Pk.z) (i := i) (n := n) (by rw [List.length_map]; exact hi) (by rw [List.getElem_map]; exact hn))
  have HB := Lib.hid (ga.mono hbase)
  have hxm := List.getElem_mem hi
  have hox := hI.own.own _ hxm
  clear h ga hI kF d0 d1 d2 d3
  generalize hx : l[i] = x at *
  obtain ⟨k, id, f, ⟨bA, bc, zs⟩⟩ := x
  simp only at hn hz d4 hox
  obtain ⟨gb, rfl, hgb1, hgb2⟩ := own_some hox (by omega)
  obtain ⟨q, hq⟩ : ∃ q, q = n / 8 := ⟨_, rfl⟩
  obtain ⟨r, hr⟩ : ∃ r, r = n % 8 := ⟨_, rfl⟩
  have hqI : (n : Int) / 8 = (q : Int) := by omega
  have hrI : (n : Int) % 8 = (r : Int) := by omega
  have hr8 : r < 8 := by omega
  rw [← hq] at hn
  have HQ := Lib.hid hq
  have HR := Lib.hid hr
  have HRI := Lib.hid hrI
  clear hq hr hrI
  have hzc : (w.alloc (.cells #[.int .i64 4, .int .i64 i, .int .i64 n] 93)).cell? ⟨gb, q, none⟩ = some (.int .u8 (zs.getD q 0)) := by
    rw [hox.cellAt _ (by omega), List.getElem?_map, List.getD_eq_getElem?_getD, List.getElem?_eq_getElem hn]; rfl
  have hn2 : (q : Int) < (zs.length : Int) := by omega
  have hn3 : decide ((q : Int) < (zs.length : Int)) = true := by simp [hn]
  have h0 : (0 : Int) ≤ (n : Int) := by omega
  have hwr : wrap64 (q : Int) = (q : Int) := Go.IntWalk.wrap64_in _ (by omega)
  have hwq : wrap64 (r : Int) = (r : Int) := Go.IntWalk.wrap64_in _ (by omega)
  have H8 := Lib.hid hr8
  clear hr8 hwq
  generalize hzq : zs.getD q 0 = zq at *
  have HZQ := Lib.hid hzq
  clear hzq
  go_enter Try.func72, Try.ntmps72
  go_wp2_with fail
  generalize w.alloc (.cells #[.int .i64 4, .int .i64 i, .int .i64 n] 93) = w1 at *
  refine wp_region_g 15 (by kernel_rfl) ?_
  refine AllC.head 0 15 (fuel := 1) (by first | exact fun h k => Grew.trans h k | exact fun h k => cls_grew h k) (grew_drew _) (by rfl) (by kernel_rfl) ?_
  simp only [List.take_succ_cons, List.take_zero, List.drop_succ_cons, List.drop_zero]
  repeat (first
    | (refine HeadC.val (by rfl) ?_
       apply Exists.intro
       refine ⟨fun w' hw' => ?_, ?_⟩
       · (have hf_0 := cell_up hw' c1; have hf_1 := cell_up hw' c2; have hf_2 := cell_up hw' d4; (go_simp) <;> (try go_ints) <;> with_reducible rfl)
       try simp only [Act.put, List.setIfInBounds_toArray, List.set_cons_zero, List.set_cons_succ])
    | (refine HeadC.shut (by rfl) ?_
       try simp only [Act.put, List.setIfInBounds_toArray, List.set_cons_zero, List.set_cons_succ]))
  refine HeadC.nil ?_
  refine AllC.tail 15 (by rfl) (by kernel_rfl) ?_
  intro wt hwt
  simp only [List.drop_succ_cons, List.drop_zero]
  have hgt : Grew w1 wt := (grew_drew _).trans hwt
  replace c1 := cell_up hgt c1
  replace c2 := cell_up hgt c2
  replace d4 := cell_up hgt d4
  replace hzc := cell_up hgt hzc
  have hIt := HI.out.of hgt
  replace hox := own_below hox hgt
  have hBt : Below base w wt := Below.trans (B := base) HB.out (hgt.mono (Nat.le_trans hbase HB.out.size))
  clear hwt hgt c0
  go_wp2_with fail
  have hrI := HRI.out
  have hnq : (0 : Int) ≤ (r : Int) := by omega
  refine wp_region_g 16 (by kernel_rfl) ?_
  refine AllC.head 0 16 (fuel := 2) (by first | exact fun h k => Grew.trans h k | exact fun h k => cls_grew h k) (grew_drew _) (by rfl) (by kernel_rfl) ?_
  simp only [List.take_succ_cons, List.take_zero, List.drop_succ_cons, List.drop_zero]
  repeat (first
    | (refine HeadC.val (by rfl) ?_
       apply Exists.intro
       refine ⟨fun w' hw' => ?_, ?_⟩
       · (have hf_0 := cell_up hw' c1; have hf_1 := cell_up hw' c2; have hf_2 := cell_up hw' d4; have hf_3 := cell_up hw' hzc; (go_simp) <;> (try go_ints) <;> with_reducible rfl)
       try simp only [Act.put, List.setIfInBounds_toArray, List.set_cons_zero, List.set_cons_succ])
    | (refine HeadC.shut (by rfl) ?_
       try simp only [Act.put, List.setIfInBounds_toArray, List.set_cons_zero, List.set_cons_succ]))
  refine HeadC.nil ?_
  refine AllC.tail 16 (by rfl) (by kernel_rfl) ?_
  intro wt hwt
  simp only [List.drop_succ_cons, List.drop_zero]
  have hgt : Grew _ wt := (grew_drew _).trans hwt
  have hIt2 := hIt.of hgt
  replace hox := own_below hox hgt
  replace hzc := cell_up hgt hzc
  have hBt2 : Below base w wt := Below.trans (B := base) hBt (hgt.mono (Nat.le_trans hbase hBt.size))
  have hfz := hox.frozenAt q
  obtain ⟨hst, hstg⟩ := hox.stored q (.int .u8 (bits .xor .u8 zq ((2 : Int) ^ r % 256)))
  have hcS : Ch (At gb) wt (wt.setCell ⟨gb, q, none⟩ (.int .u8 (bits .xor .u8 zq ((2 : Int) ^ r % 256)))) := Ch.of_grown hstg
  have hFL : flipZ zs n = zs.set q (bits .xor .u8 zq ((2 : Int) ^ r % 256)) := by
    unfold flipZ flipV
    rw [← HQ.out, ← HR.out, HZQ.out]
  have hnew : (wt.setCell ⟨gb, q, none⟩ (.int .u8 (bits .xor .u8 zq ((2 : Int) ^ r % 256)))).ownsRow base 5 1 (.slice (some ⟨gb, 0, none⟩) (flipZ zs n).length bc) (flipZ zs n).length ((flipZ zs n).map (.int .u8)) := by
    rw [flipZ_length, hFL, List.map_set]
    exact hst
  have hpo := hIt2.own.set_ (a := i) (g := gb) hi (x := ⟨k, id, f, ⟨some ⟨gb, 0, none⟩, bc, flipZ zs n⟩⟩) (by rw [hx]; rfl) (by rw [hx]; simp only [Part.v, flipZ_length]) hcS hnew
  have hgne : (Value.slice (some ⟨g, 0, none⟩) l.length c).ownBlock ≠ some gb := hIt2.apart hxm (k := gb) rfl
  have hrow := own_ch hIt2.row hcS (fun j hj h => hgne (by rw [hj]; exact congrArg some h))
  have hgbb : base ≤ gb := own_lt hox gb rfl
  have hbE : Below base w (wt.setCell ⟨gb, q, none⟩ (.int .u8 (bits .xor .u8 zq ((2 : Int) ^ r % 256)))) := Below.trans (B := base) hBt2 (hcS.below (Nat.le_trans hbase hBt2.size) (fun j h => by have h2 : j = gb := h; omega))
  have HPO := Lib.hid hpo
  have HROW := Lib.hid hrow
  have HBE := Lib.hid hbE
  clear hst hstg hcS hnew hpo hrow hbE hFL hgne hIt hIt2 hBt hBt2 hox
  go_wp2_with fail
  go_ret
  refine ⟨some ⟨g, 0, none⟩, c, l.set i ⟨k, id, f, ⟨some ⟨gb, 0, none⟩, bc, flipZ zs n⟩⟩, by rw [List.length_set]; rfl, ?_, ⟨?_, HPO.out⟩, HBE.out⟩
  · rw [hS.out, List.map_set, List.getElem_map, hx]
    rfl
  · rw [List.length_set]
    have e : pksC (l.set i ⟨k, id, f, ⟨some ⟨gb, 0, none⟩, bc, flipZ zs n⟩⟩) = pksC l := by
      have hs : l = l.set i l[i] := (List.set_getElem_self hi).symm
      conv => rhs; rw [hs]
      rw [pksC_set _ _ _ hi, pksC_set _ _ _ hi, hx]
      simp only [pkC, Part.v, flipZ_length]
    rw [e]
    exact HROW.out

theorem strike_swap {l : List PkZ} {i o : Nat} {b : Int} (h : i < l.length) (ho : o < l.length) (hb : (i : Int) + b = o) : strike l ⟨3, i, b⟩ = (l.set i l[o]).set o l[i] := by
  unfold strike
  rw [dif_pos ⟨by simp only; omega, by simpa using h⟩]
  simp only [Int.toNat_natCast, hb]
  rw [if_neg (by decide), if_neg (by decide), if_pos trivial, dif_pos ⟨by omega, by omega⟩]
theorem strike_swap_no {l : List PkZ} {i : Nat} {b : Int} (h : i < l.length) (hb : ¬ (0 ≤ (i : Int) + b ∧ (i : Int) + b < (l.length : Int))) : strike l ⟨3, i, b⟩ = l := by
  unfold strike
  rw [dif_pos ⟨by simp only; omega, by simpa using h⟩]
  simp only [Int.toNat_natCast]
  rw [if_neg (by decide), if_neg (by decide), if_pos trivial, dif_neg hb]
set_option maxRecDepth 100000 in
set_option maxHeartbeats 1000000 in
theorem disturb_swap_no (g c i base : Nat) (l : List Pk) (b : Int) (w : World) (h : PksIs w base (some ⟨g, 0, none⟩) c l) (hi : i < l.length) (hn : ¬ (0 ≤ (i : Int) + b ∧ (i : Int) + b < (l.length : Int))) (hb1 : -9223372036854775808 ≤ b) (hb2 : b ≤ 9223372036854775807) (hlen : l.length ≤ 16777215) (hbase : base ≤ w.heap.size) :
    Calls Try.prog 72 #[.slice (some ⟨g, 0, none⟩) l.length c, .agg #[.int .i64 3, .int .i64 i, .int .i64 b]] w (CarRes base (strike (l.map Pk.z) ⟨3, i, b⟩) w) := by
  have ga := grew_alloc w (.cells #[.int .i64 3, .int .i64 i, .int .i64 b] 93)
  have kF := Blk.new w 93 #[.int .i64 3, .int .i64 i, .int .i64 b]
  have HI := Lib.hid (h.of ga)
  have c0 := (kF.cell 0).trans (show _ = some (.int .i64 3) from rfl)
  have c1 := (kF.cell 1).trans (show _ = some (.int .i64 i) from rfl)
  have c2 := (kF.cell 2).trans (show _ = some (.int .i64 b) from rfl)
  have hS := Lib.hid (strike_swap_no (l := l.map Pk.z) (i := i) (b := b) (by rw [List.length_map]; exact hi) (by rw [List.length_map]; exact hn))
  have HB := Lib.hid (ga.mono hbase)
  obtain ⟨v, hv, hv2⟩ : ∃ v, wrap64 ((i : Int) + b) = v ∧ ¬ (0 ≤ v ∧ v < (l.length : Int)) := by
    refine ⟨_, rfl, ?_⟩
    by_cases hr : (i : Int) + b ≤ 9223372036854775807
    · rw [Go.IntWalk.wrap64_in _ (by omega)]; exact hn
    · have : wrap64 ((i : Int) + b) = (i : Int) + b - 18446744073709551616 := by unfold wrap64; omega
      omega
  clear h ga kF hn hb1 hb2
  by_cases h0 : 0 ≤ v
  · have h1 : (l.length : Int) ≤ v := by omega
    have h2 : decide (v < (l.length : Int)) = false := by simp; omega
    clear hv2
    go_enter Try.func72, Try.ntmps72
    go_wp2_with fail
    go_ret
    exact ⟨some ⟨g, 0, none⟩, c, l, rfl, hS.out.symm, HI.out, HB.out⟩
  · have h1 : v < 0 := by omega
    have h2 : decide (0 ≤ v) = false := by simp; omega
    clear hv2
    go_enter Try.func72, Try.ntmps72
    go_wp2_with fail
    go_ret
    exact ⟨some ⟨g, 0, none⟩, c, l, rfl, hS.out.symm, HI.out, HB.out⟩
set_option maxRecDepth 100000 in
set_option maxHeartbeats 400000 in
theorem disturb_swap (g c i o base : Nat) (l : List Pk) (b : Int) (w : World) (h : PksIs w base (some ⟨g, 0, none⟩) c l) (hi : i < l.length) (ho : o < l.length) (hb : (i : Int) + b = o) (hlen : l.length ≤ 16777215) (hbase : base ≤ w.heap.size) :
    Calls Try.prog 72 #[.slice (some ⟨g, 0, none⟩) l.length c, .agg #[.int .i64 3, .int .i64 i, .int .i64 b]] w (CarRes base (strike (l.map Pk.z) ⟨3, i, b⟩) w) := by
  have ga := grew_alloc w (.cells #[.int .i64 3, .int .i64 i, .int .i64 b] 93)
  have kF := Blk.new w 93 #[.int .i64 3, .int .i64 i, .int .i64 b]
  have hI := h.of ga
  have HI := Lib.hid hI
  have c0 := (kF.cell 0).trans (show _ = some (.int .i64 3) from rfl)
  have c1 := (kF.cell 1).trans (show _ = some (.int .i64 i) from rfl)
  have c2 := (kF.cell 2).trans (show _ = some (.int .i64 b) from rfl)
  have hgl : g < w.heap.size := (h.row.lt g rfl).2
  have hng : ¬ At g w.heap.size := fun h => by have h2 : w.heap.size = g := h; omega
  have hS := Lib.hid (strike_swap (l := l.map Pk.z) (i := i) (o := o) (b := b) (by rw [List.length_map]; exact hi) (by rw [List.length_map]; exact ho) hb)
  have HB := Lib.hid (ga.mono hbase)
  have hv : wrap64 ((i : Int) + b) = (o : Int) := by rw [hb]; exact Go.IntWalk.wrap64_in _ (by omega)
  have hiI : (i : Int) < (l.length : Int) := by omega
  have hoI : (o : Int) < (l.length : Int) := by omega
  have hoD : decide ((o : Int) < (l.length : Int)) = true := by simp [ho]
  clear h ga kF hb hI
  go_enter Try.func72, Try.ntmps72
  go_wp2_with fail
  simp only [hv]
  generalize w.alloc (.cells #[.int .i64 3, .int .i64 i, .int .i64 b] 93) = w1 at *
  obtain ⟨d0, d1, d2, d3, d4⟩ := pks_lit (own_row HI.out.row) hi
  obtain ⟨e0, e1, e2, e3, e4⟩ := pks_lit (own_row HI.out.row) ho
  generalize hx : l[i] = x at *
  generalize hy : l[o] = y at *
  obtain ⟨xk, ⟨x1, x2⟩, xf, ⟨xA, xc, xz⟩⟩ := x
  obtain ⟨yk, ⟨y1, y2⟩, yf, ⟨yA, yc, yz⟩⟩ := y
  simp only at d0 d1 d2 d3 d4 e0 e1 e2 e3 e4
  refine wp_region_cls (Ch (At g) w1) 16 (by kernel_rfl) ?_
  have hc0 := (Ch.refl (At g) w1).drew
  refine AllC.head 0 8 (fuel := 10) (by first | exact fun h k => Grew.trans h k | exact fun h k => cls_grew h k) (hc0) (by rfl) (by kernel_rfl) ?_
  simp only [List.take_succ_cons, List.take_zero, List.drop_succ_cons, List.drop_zero]
  repeat (first
    | (refine HeadC.val (by rfl) ?_
       apply Exists.intro
       refine ⟨fun w' hw' => ?_, ?_⟩
       · (have hf_0 := hw'.cell c1 hng; (go_simp) <;> (try go_ints) <;> with_reducible rfl)
       try simp only [Act.put, List.setIfInBounds_toArray, List.set_cons_zero, List.set_cons_succ])
    | (refine HeadC.shut (by rfl) ?_
       try simp only [Act.put, List.setIfInBounds_toArray, List.set_cons_zero, List.set_cons_succ]))
  refine HeadC.nil ?_
  refine AllC.head 9 4 (fuel := 6) (by first | exact fun h k => Grew.trans h k | exact fun h k => cls_grew h k) (hc0) (by rfl) (by kernel_rfl) ?_
  simp only [List.take_succ_cons, List.take_zero, List.drop_succ_cons, List.drop_zero]
  repeat (first
    | (refine HeadC.val (by rfl) ?_
       apply Exists.intro
       refine ⟨fun w' hw' => ?_, ?_⟩
       · (have hf_0 := hw'.cell c1 hng; (go_simp) <;> (try go_ints) <;> with_reducible rfl)
       try simp only [Act.put, List.setIfInBounds_toArray, List.set_cons_zero, List.set_cons_succ])
    | (refine HeadC.shut (by rfl) ?_
       try simp only [Act.put, List.setIfInBounds_toArray, List.set_cons_zero, List.set_cons_succ]))
  refine HeadC.nil ?_
  have HIw := Lib.hid (HI.out.row)
  have hpi : i * 5 + 5 ≤ (pksC l).length := by rw [pksC_len]; omega
  have hpo : o * 5 + 5 ≤ (pksC l).length := by rw [pksC_len]; omega
  refine AllC.both [8, 13] (by kernel_rfl) (by simp) ?_
  intro wg hg i' hi'
  simp only [List.mem_cons, List.not_mem_nil, or_false] at hi'
  rcases hi' with rfl | rfl
  · refine ⟨_, rfl, fun K hK => ?_⟩
    have hg0 : Grew w1 wg := (grew_drew _).trans hg
    replace d0 := cell_up hg0 d0; replace d1 := cell_up hg0 d1; replace d2 := cell_up hg0 d2; replace d3 := cell_up hg0 d3; replace d4 := cell_up hg0 d4
    replace e0 := cell_up hg0 e0; replace e1 := cell_up hg0 e1; replace e2 := cell_up hg0 e2; replace e3 := cell_up hg0 e3; replace e4 := cell_up hg0 e4
    go_simp
    refine hK.out _ _ (hc0.next hg) ?_
    clear hK K hg
    try simp only [Act.put, List.setIfInBounds_toArray, List.set_cons_zero, List.set_cons_succ]
    obtain ⟨wh, hwh⟩ : ∃ x, x = wg := ⟨_, rfl⟩
    subst hwh
    refine AllC.one 13 (by kernel_rfl) rfl ?_
    intro wg hg K hK
    replace hg0 := Grew.trans hg0 hg
    replace d0 := cell_up hg d0; replace d1 := cell_up hg d1; replace d2 := cell_up hg d2; replace d3 := cell_up hg d3; replace d4 := cell_up hg d4
    replace e0 := cell_up hg e0; replace e1 := cell_up hg e1; replace e2 := cell_up hg e2; replace e3 := cell_up hg e3; replace e4 := cell_up hg e4
    go_simp
    refine hK.out _ _ (Ch.of_below hg0) ?_
    clear hK K hg
    try simp only [Act.put, List.setIfInBounds_toArray, List.set_cons_zero, List.set_cons_succ]
    clear wh
    obtain ⟨wh, hwh⟩ : ∃ x, x = wg := ⟨_, rfl⟩
    subst hwh
    refine AllC.one 14 (by kernel_rfl) rfl ?_
    intro wg hg K hK
    replace hg0 := Grew.trans hg0 hg
    replace d0 := cell_up hg d0; replace d1 := cell_up hg d1; replace d2 := cell_up hg d2; replace d3 := cell_up hg d3; replace d4 := cell_up hg d4
    replace e0 := cell_up hg e0; replace e1 := cell_up hg e1; replace e2 := cell_up hg e2; replace e3 := cell_up hg e3; replace e4 := cell_up hg e4
    go_simp
    refine hK.out _ _ (Ch.of_below hg0) ?_
    clear hK K hg
    try simp only [Act.put, List.setIfInBounds_toArray, List.set_cons_zero, List.set_cons_succ]
    clear wh
    obtain ⟨wh, hwh⟩ : ∃ x, x = wg := ⟨_, rfl⟩
    subst hwh
    refine AllC.one 15 (by kernel_rfl) rfl ?_
    intro wg hg K hK
    replace hg0 := Grew.trans hg0 hg
    replace d0 := cell_up hg d0; replace d1 := cell_up hg d1; replace d2 := cell_up hg d2; replace d3 := cell_up hg d3; replace d4 := cell_up hg d4
    replace e0 := cell_up hg e0; replace e1 := cell_up hg e1; replace e2 := cell_up hg e2; replace e3 := cell_up hg e3; replace e4 := cell_up hg e4
    have hor := own_below HIw.out hg0
    have f0 := hor.frozenAt (i * 5); have f1 := hor.frozenAt (i * 5 + 1); have f2 := hor.frozenAt (i * 5 + 2); have f3 := hor.frozenAt (i * 5 + 3); have f4 := hor.frozenAt (i * 5 + 4)
    go_simp
    have hs := own_puts [.int .i64 yk, .int .u64 y1, .int .i64 y2, .int .i64 yf, .slice yA yz.length yc] (i * 5) hor hpi
    have s1 : ((((((wg.setCell ⟨g, i * 5, none⟩ (.int .i64 yk)).setCell ⟨g, i * 5 + 1, none⟩ (.int .u64 y1)).setCell ⟨g, i * 5 + 2, none⟩ (.int .i64 y2)).setCell ⟨g, i * 5 + 3, none⟩ (.int .i64 yf)).setCell ⟨g, i * 5 + 4, none⟩ (.slice yA yz.length yc))).ownsRow base 55 5 (.slice (some ⟨g, 0, none⟩) l.length c) l.length (pksC (l.set i ⟨yk, (y1, y2), yf, ⟨yA, yc, yz⟩⟩)) := by
      rw [pksC_set _ _ _ hi]; exact hs.1
    have s2 : Ch (At g) wg ((((((wg.setCell ⟨g, i * 5, none⟩ (.int .i64 yk)).setCell ⟨g, i * 5 + 1, none⟩ (.int .u64 y1)).setCell ⟨g, i * 5 + 2, none⟩ (.int .i64 y2)).setCell ⟨g, i * 5 + 3, none⟩ (.int .i64 yf)).setCell ⟨g, i * 5 + 4, none⟩ (.slice yA yz.length yc))) := hs.2
    have s3 : Ch (At g) w1 ((((((wg.setCell ⟨g, i * 5, none⟩ (.int .i64 yk)).setCell ⟨g, i * 5 + 1, none⟩ (.int .u64 y1)).setCell ⟨g, i * 5 + 2, none⟩ (.int .i64 y2)).setCell ⟨g, i * 5 + 3, none⟩ (.int .i64 yf)).setCell ⟨g, i * 5 + 4, none⟩ (.slice yA yz.length yc))) := (Ch.of_below hg0).trans s2
    refine hK.out _ _ s3 ?_
    clear hK K hg hs s2 f0 f1 f2 f3 f4 hor hg0 d0 d1 d2 d3 d4 e0 e1 e2 e3 e4
    try simp only [Act.put, List.setIfInBounds_toArray, List.set_cons_zero, List.set_cons_succ]
    generalize (((((wg.setCell ⟨g, i * 5, none⟩ (.int .i64 yk)).setCell ⟨g, i * 5 + 1, none⟩ (.int .u64 y1)).setCell ⟨g, i * 5 + 2, none⟩ (.int .i64 y2)).setCell ⟨g, i * 5 + 3, none⟩ (.int .i64 yf)).setCell ⟨g, i * 5 + 4, none⟩ (.slice yA yz.length yc)) = ws at *
    clear wg wh
    refine AllC.tail 16 (by rfl) (by kernel_rfl) ?_
    intro wt hwt
    simp only [List.drop_succ_cons, List.drop_zero]
    replace s3 := s3.next hwt
    replace s1 := own_below s1 hwt
    have s1' : wt.ownsRow base 55 5 (.slice (some ⟨g, 0, none⟩) (l.set i ⟨yk, (y1, y2), yf, ⟨yA, yc, yz⟩⟩).length c) (l.set i ⟨yk, (y1, y2), yf, ⟨yA, yc, yz⟩⟩).length (pksC (l.set i ⟨yk, (y1, y2), yf, ⟨yA, yc, yz⟩⟩)) := by rw [List.length_set]; exact s1
    obtain ⟨d0, d1, d2, d3, d4⟩ := pks_lit (own_row s1') (k := o) (by rw [List.length_set]; exact ho)
    have f0 := s1.frozenAt (o * 5); have f1 := s1.frozenAt (o * 5 + 1); have f2 := s1.frozenAt (o * 5 + 2); have f3 := s1.frozenAt (o * 5 + 3); have f4 := s1.frozenAt (o * 5 + 4)
    have hs := own_puts [.int .i64 xk, .int .u64 x1, .int .i64 x2, .int .i64 xf, .slice xA xz.length xc] (o * 5) s1 (by rw [pksC_len, List.length_set]; simp only [List.length_cons, List.length_nil]; omega)
    have t1 : ((((((wt.setCell ⟨g, o * 5, none⟩ (.int .i64 xk)).setCell ⟨g, o * 5 + 1, none⟩ (.int .u64 x1)).setCell ⟨g, o * 5 + 2, none⟩ (.int .i64 x2)).setCell ⟨g, o * 5 + 3, none⟩ (.int .i64 xf)).setCell ⟨g, o * 5 + 4, none⟩ (.slice xA xz.length xc))).ownsRow base 55 5 (.slice (some ⟨g, 0, none⟩) l.length c) l.length (pksC ((l.set i ⟨yk, (y1, y2), yf, ⟨yA, yc, yz⟩⟩).set o ⟨xk, (x1, x2), xf, ⟨xA, xc, xz⟩⟩)) := by
      rw [pksC_set _ _ _ (by rw [List.length_set]; exact ho)]; exact hs.1
    have t2 : Ch (At g) w1 ((((((wt.setCell ⟨g, o * 5, none⟩ (.int .i64 xk)).setCell ⟨g, o * 5 + 1, none⟩ (.int .u64 x1)).setCell ⟨g, o * 5 + 2, none⟩ (.int .i64 x2)).setCell ⟨g, o * 5 + 3, none⟩ (.int .i64 xf)).setCell ⟨g, o * 5 + 4, none⟩ (.slice xA xz.length xc))) := s3.trans hs.2
    have HT1 := Lib.hid t1
    have HT2 := Lib.hid t2
    clear hs t1 t2 s1 s1' s3 hwt c1 c2
    go_wp2_with fail
    go_ret
    have hgb : base ≤ g := own_lt HI.out.row g rfl
    have hpo2 := (HI.out.own.swap hi ho).ch HT2.out (fun x' hx' q hq h => by
      have h2 : q = g := h
      subst h2
      exact HI.out.apart ((List.set_set_perm hi ho).mem_iff.1 hx') hq rfl)
    rw [hx, hy] at hpo2
    refine ⟨some ⟨g, 0, none⟩, c, (l.set i ⟨yk, (y1, y2), yf, ⟨yA, yc, yz⟩⟩).set o ⟨xk, (x1, x2), xf, ⟨xA, xc, xz⟩⟩, by simp only [List.length_set]; rfl, ?_, ⟨by simp only [List.length_set]; exact HT1.out, hpo2⟩, ?_⟩
    · rw [hS.out, List.map_set, List.map_set, List.getElem_map, List.getElem_map, hx, hy]
    · exact Below.trans (B := base) HB.out (HT2.out.below (Nat.le_trans hbase HB.out.size) (fun q h => by have h2 : q = g := h; omega))
  · refine ⟨_, rfl, fun K hK => ?_⟩
    have hg0 : Grew w1 wg := (grew_drew _).trans hg
    replace d0 := cell_up hg0 d0; replace d1 := cell_up hg0 d1; replace d2 := cell_up hg0 d2; replace d3 := cell_up hg0 d3; replace d4 := cell_up hg0 d4
    replace e0 := cell_up hg0 e0; replace e1 := cell_up hg0 e1; replace e2 := cell_up hg0 e2; replace e3 := cell_up hg0 e3; replace e4 := cell_up hg0 e4
    go_simp
    refine hK.out _ _ (hc0.next hg) ?_
    clear hK K hg
    try simp only [Act.put, List.setIfInBounds_toArray, List.set_cons_zero, List.set_cons_succ]
    obtain ⟨wh, hwh⟩ : ∃ x, x = wg := ⟨_, rfl⟩
    subst hwh
    refine AllC.one 8 (by kernel_rfl) rfl ?_
    intro wg hg K hK
    replace hg0 := Grew.trans hg0 hg
    replace d0 := cell_up hg d0; replace d1 := cell_up hg d1; replace d2 := cell_up hg d2; replace d3 := cell_up hg d3; replace d4 := cell_up hg d4
    replace e0 := cell_up hg e0; replace e1 := cell_up hg e1; replace e2 := cell_up hg e2; replace e3 := cell_up hg e3; replace e4 := cell_up hg e4
    go_simp
    refine hK.out _ _ (Ch.of_below hg0) ?_
    clear hK K hg
    try simp only [Act.put, List.setIfInBounds_toArray, List.set_cons_zero, List.set_cons_succ]
    clear wh
    obtain ⟨wh, hwh⟩ : ∃ x, x = wg := ⟨_, rfl⟩
    subst hwh
    refine AllC.one 14 (by kernel_rfl) rfl ?_
    intro wg hg K hK
    replace hg0 := Grew.trans hg0 hg
    replace d0 := cell_up hg d0; replace d1 := cell_up hg d1; replace d2 := cell_up hg d2; replace d3 := cell_up hg d3; replace d4 := cell_up hg d4
    replace e0 := cell_up hg e0; replace e1 := cell_up hg e1; replace e2 := cell_up hg e2; replace e3 := cell_up hg e3; replace e4 := cell_up hg e4
    go_simp
    refine hK.out _ _ (Ch.of_below hg0) ?_
    clear hK K hg
    try simp only [Act.put, List.setIfInBounds_toArray, List.set_cons_zero, List.set_cons_succ]
    clear wh
    obtain ⟨wh, hwh⟩ : ∃ x, x = wg := ⟨_, rfl⟩
    subst hwh
    refine AllC.one 15 (by kernel_rfl) rfl ?_
    intro wg hg K hK
    replace hg0 := Grew.trans hg0 hg
    replace d0 := cell_up hg d0; replace d1 := cell_up hg d1; replace d2 := cell_up hg d2; replace d3 := cell_up hg d3; replace d4 := cell_up hg d4
    replace e0 := cell_up hg e0; replace e1 := cell_up hg e1; replace e2 := cell_up hg e2; replace e3 := cell_up hg e3; replace e4 := cell_up hg e4
    have hor := own_below HIw.out hg0
    have f0 := hor.frozenAt (i * 5); have f1 := hor.frozenAt (i * 5 + 1); have f2 := hor.frozenAt (i * 5 + 2); have f3 := hor.frozenAt (i * 5 + 3); have f4 := hor.frozenAt (i * 5 + 4)
    go_simp
    have hs := own_puts [.int .i64 yk, .int .u64 y1, .int .i64 y2, .int .i64 yf, .slice yA yz.length yc] (i * 5) hor hpi
    have s1 : ((((((wg.setCell ⟨g, i * 5, none⟩ (.int .i64 yk)).setCell ⟨g, i * 5 + 1, none⟩ (.int .u64 y1)).setCell ⟨g, i * 5 + 2, none⟩ (.int .i64 y2)).setCell ⟨g, i * 5 + 3, none⟩ (.int .i64 yf)).setCell ⟨g, i * 5 + 4, none⟩ (.slice yA yz.length yc))).ownsRow base 55 5 (.slice (some ⟨g, 0, none⟩) l.length c) l.length (pksC (l.set i ⟨yk, (y1, y2), yf, ⟨yA, yc, yz⟩⟩)) := by
      rw [pksC_set _ _ _ hi]; exact hs.1
    have s2 : Ch (At g) wg ((((((wg.setCell ⟨g, i * 5, none⟩ (.int .i64 yk)).setCell ⟨g, i * 5 + 1, none⟩ (.int .u64 y1)).setCell ⟨g, i * 5 + 2, none⟩ (.int .i64 y2)).setCell ⟨g, i * 5 + 3, none⟩ (.int .i64 yf)).setCell ⟨g, i * 5 + 4, none⟩ (.slice yA yz.length yc))) := hs.2
    have s3 : Ch (At g) w1 ((((((wg.setCell ⟨g, i * 5, none⟩ (.int .i64 yk)).setCell ⟨g, i * 5 + 1, none⟩ (.int .u64 y1)).setCell ⟨g, i * 5 + 2, none⟩ (.int .i64 y2)).setCell ⟨g, i * 5 + 3, none⟩ (.int .i64 yf)).setCell ⟨g, i * 5 + 4, none⟩ (.slice yA yz.length yc))) := (Ch.of_below hg0).trans s2
    refine hK.out _ _ s3 ?_
    clear hK K hg hs s2 f0 f1 f2 f3 f4 hor hg0 d0 d1 d2 d3 d4 e0 e1 e2 e3 e4
    try simp only [Act.put, List.setIfInBounds_toArray, List.set_cons_zero, List.set_cons_succ]
    generalize (((((wg.setCell ⟨g, i * 5, none⟩ (.int .i64 yk)).setCell ⟨g, i * 5 + 1, none⟩ (.int .u64 y1)).setCell ⟨g, i * 5 + 2, none⟩ (.int .i64 y2)).setCell ⟨g, i * 5 + 3, none⟩ (.int .i64 yf)).setCell ⟨g, i * 5 + 4, none⟩ (.slice yA yz.length yc)) = ws at *
    clear wg wh
    refine AllC.tail 16 (by rfl) (by kernel_rfl) ?_
    intro wt hwt
    simp only [List.drop_succ_cons, List.drop_zero]
    replace s3 := s3.next hwt
    replace s1 := own_below s1 hwt
    have s1' : wt.ownsRow base 55 5 (.slice (some ⟨g, 0, none⟩) (l.set i ⟨yk, (y1, y2), yf, ⟨yA, yc, yz⟩⟩).length c) (l.set i ⟨yk, (y1, y2), yf, ⟨yA, yc, yz⟩⟩).length (pksC (l.set i ⟨yk, (y1, y2), yf, ⟨yA, yc, yz⟩⟩)) := by rw [List.length_set]; exact s1
    obtain ⟨d0, d1, d2, d3, d4⟩ := pks_lit (own_row s1') (k := o) (by rw [List.length_set]; exact ho)
    have f0 := s1.frozenAt (o * 5); have f1 := s1.frozenAt (o * 5 + 1); have f2 := s1.frozenAt (o * 5 + 2); have f3 := s1.frozenAt (o * 5 + 3); have f4 := s1.frozenAt (o * 5 + 4)
    have hs := own_puts [.int .i64 xk, .int .u64 x1, .int .i64 x2, .int .i64 xf, .slice xA xz.length xc] (o * 5) s1 (by rw [pksC_len, List.length_set]; simp only [List.length_cons, List.length_nil]; omega)
    have t1 : ((((((wt.setCell ⟨g, o * 5, none⟩ (.int .i64 xk)).setCell ⟨g, o * 5 + 1, none⟩ (.int .u64 x1)).setCell ⟨g, o * 5 + 2, none⟩ (.int .i64 x2)).setCell ⟨g, o * 5 + 3, none⟩ (.int .i64 xf)).setCell ⟨g, o * 5 + 4, none⟩ (.slice xA xz.length xc))).ownsRow base 55 5 (.slice (some ⟨g, 0, none⟩) l.length c) l.length (pksC ((l.set i ⟨yk, (y1, y2), yf, ⟨yA, yc, yz⟩⟩).set o ⟨xk, (x1, x2), xf, ⟨xA, xc, xz⟩⟩)) := by
      rw [pksC_set _ _ _ (by rw [List.length_set]; exact ho)]; exact hs.1
    have t2 : Ch (At g) w1 ((((((wt.setCell ⟨g, o * 5, none⟩ (.int .i64 xk)).setCell ⟨g, o * 5 + 1, none⟩ (.int .u64 x1)).setCell ⟨g, o * 5 + 2, none⟩ (.int .i64 x2)).setCell ⟨g, o * 5 + 3, none⟩ (.int .i64 xf)).setCell ⟨g, o * 5 + 4, none⟩ (.slice xA xz.length xc))) := s3.trans hs.2
    have HT1 := Lib.hid t1
    have HT2 := Lib.hid t2
    clear hs t1 t2 s1 s1' s3 hwt c1 c2
    go_wp2_with fail
    go_ret
    have hgb : base ≤ g := own_lt HI.out.row g rfl
    have hpo2 := (HI.out.own.swap hi ho).ch HT2.out (fun x' hx' q hq h => by
      have h2 : q = g := h
      subst h2
      exact HI.out.apart ((List.set_set_perm hi ho).mem_iff.1 hx') hq rfl)
    rw [hx, hy] at hpo2
    refine ⟨some ⟨g, 0, none⟩, c, (l.set i ⟨yk, (y1, y2), yf, ⟨yA, yc, yz⟩⟩).set o ⟨xk, (x1, x2), xf, ⟨xA, xc, xz⟩⟩, by simp only [List.length_set]; rfl, ?_, ⟨by simp only [List.length_set]; exact HT1.out, hpo2⟩, ?_⟩
    · rw [hS.out, List.map_set, List.map_set, List.getElem_map, List.getElem_map, hx, hy]
    · exact Below.trans (B := base) HB.out (HT2.out.below (Nat.le_trans hbase HB.out.size) (fun q h => by have h2 : q = g := h; omega))
end
end Go.Proofs.Ytpoiejgoongllaa
