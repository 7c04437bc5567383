/-
  Del37, Copied37, Ins37a, Ins37, Pks37, Dist37, Carry37.
-/
import Derived.Test.YtpoiejgoongllaaStart37
import Derived.Lib.AppendZerosOnto
import Derived.Lib.Overlaps
namespace Go.Proofs.Ytpoiejgoongllaa
/- Del37:
  slices.Delete of packets.
-/
section
section
set_option linter.unusedVariables false
set_option linter.unusedSimpArgs false
set_option linter.unnecessarySimpa false
open Go.RowKit
attribute [local go_sem ↓] Go.wp_at_zero Go.wp_at_succ

theorem pks_del {l : List Pk} {i : Nat} : (pksC l).take (i * 5) ++ (pksC l).drop ((i + 1) * 5) = pksC (l.eraseIdx i) := by
  unfold pksC
  rw [flat_take (f := pkC) (c := 5) (fun _ => rfl), flat_drop (f := pkC) (c := 5) (fun _ => rfl), List.eraseIdx_eq_take_drop_succ, List.flatMap_append]
set_option maxRecDepth 100000 in
set_option maxHeartbeats 1000000 in
theorem delete_pk (g m cap base i : Nat) (l : List Pk) (w : World) (hown : w.ownsRow base 55 5 (.slice (some ⟨g, 0, none⟩) (m + 1) cap) (m + 1) (pksC l)) (hi : i ≤ m) :
    Calls Try.prog 81 #[.slice (some ⟨g, 0, none⟩) (m + 1 : Nat) cap, .int .i64 i, .int .i64 ((i : Int) + 1)] w fun e w' => e = .returned (.slice (some ⟨g, 0, none⟩) m cap) ∧
      w'.ownsRow base 55 5 (.slice (some ⟨g, 0, none⟩) m cap) m (pksC (l.eraseIdx i)) ∧ Ch (At g) w w' := by
  obtain ⟨hc1, hc2⟩ := own_cap hown
  have hne : ((i : Int) == (i : Int) + 1) = false := by rw [beq_eq_false_iff_ne]; omega
  have hw1 : IntKind.i64.wrap ((i : Int) + 1) = (i : Int) + 1 := Go.IntWalk.i64_in _ (by omega)
  have hx0 := Ch.refl (At g) w
  have HX := Lib.hid hown
  clear hown
  by_cases hcap : cap = i + 1
  · obtain rfl : i = m := by omega
    subst hcap
    have q1 : (i : Int) ≤ ((i : Int) + 1) := by omega
    have q2 : (i : Int) + 1 ≤ (i : Int) + 1 := by omega
    have q3 : 0 ≤ (i : Int) + 1 := by omega
    have q4 : ((i : Int) + 1).toNat = i + 1 := by omega
    go_enter Try.func81, Try.ntmps81
    go_wp2_with fail
    refine wp_region_cls (Ch (At g) w) 6 (by kernel_rfl) ?_
    have hc0 := hx0.drew
    refine AllC.head 0 6 (fuel := 2) (by first | exact fun h k => Grew.trans h k | exact fun h k => cls_grew h k) (hc0) (by rfl) (by kernel_rfl) ?_
    simp only [List.take_succ_cons, List.take_zero, List.drop_succ_cons, List.drop_zero]
    repeat (first
      | (refine HeadC.val (by rfl) ?_
         apply Exists.intro
         refine ⟨fun w' hw' => ?_, ?_⟩
         · (have hf_0 := hc0; (go_simp) <;> (try go_ints) <;> with_reducible rfl)
         try simp only [Act.put, List.setIfInBounds_toArray, List.set_cons_zero, List.set_cons_succ])
      | (refine HeadC.shut (by rfl) ?_
         try simp only [Act.put, List.setIfInBounds_toArray, List.set_cons_zero, List.set_cons_succ]))
    refine HeadC.nil ?_
    refine AllC.tail 6 (by rfl) (by kernel_rfl) ?_
    intro wt hwt
    simp only [List.drop_succ_cons, List.drop_zero]
    have hc1' := hc0.next hwt
    have hown1 := own_below HX.out ((grew_drew _).trans hwt)
    clear q1 q2 q3 q4 hne hw1 hx0 hc0 hwt
    refine wpList_append_shift rfl (.tmp 22) (.tmp 25) rfl base elem_pk hown1 hi (ones_pks _) (by rfl) (by rfl) (by omega) (.inl rfl) ?_
    intro w2 ys hown2 hys hg2
    have HYS := Lib.hid hys
    clear hys
    have hml : (i : Int) ≤ (i : Int) + 1 := by omega
    have hmc : (i : Int) + 1 ≤ ((i : Int) + 1) := by omega
    obtain ⟨w3, hclr, hown3, hg3⟩ := run_clear_last (P := Try.prog) (ty := 0) base elem_pk (z := .agg #[.int .i64 0, .int .u64 0, .int .i64 0, .int .i64 0, .slice none 0 0]) (by kernel_rfl) rfl (by simp [Value.cells, Value.oneCell']) hown2 1
    go_wp2
    go_ret
    refine ⟨rfl, ?_, (hc1'.trans (Ch.of_grown hg2)).trans (Ch.of_grown hg3)⟩
    rw [HYS.out, pks_del] at hown3
    exact hown3
  · have hcI : ¬ (cap : Int) = (i : Int) + 1 := by omega
    have q1 : (i : Int) ≤ (cap : Int) := by omega
    have q2 : (i : Int) + 1 ≤ (m : Int) + 1 := by omega
    have q3 : 0 ≤ (i : Int) + 1 := by omega
    have q4 : ((i : Int) + 1).toNat = i + 1 := by omega
    go_enter Try.func81, Try.ntmps81
    go_wp2_with fail
    refine wp_region_cls (Ch (At g) w) 6 (by kernel_rfl) ?_
    have hc0 := hx0.drew
    refine AllC.head 0 6 (fuel := 2) (by first | exact fun h k => Grew.trans h k | exact fun h k => cls_grew h k) (hc0) (by rfl) (by kernel_rfl) ?_
    simp only [List.take_succ_cons, List.take_zero, List.drop_succ_cons, List.drop_zero]
    repeat (first
      | (refine HeadC.val (by rfl) ?_
         apply Exists.intro
         refine ⟨fun w' hw' => ?_, ?_⟩
         · (have hf_0 := hc0; (go_simp) <;> (try go_ints) <;> with_reducible rfl)
         try simp only [Act.put, List.setIfInBounds_toArray, List.set_cons_zero, List.set_cons_succ])
      | (refine HeadC.shut (by rfl) ?_
         try simp only [Act.put, List.setIfInBounds_toArray, List.set_cons_zero, List.set_cons_succ]))
    refine HeadC.nil ?_
    refine AllC.tail 6 (by rfl) (by kernel_rfl) ?_
    intro wt hwt
    simp only [List.drop_succ_cons, List.drop_zero]
    have hc1' := hc0.next hwt
    have hown1 := own_below HX.out ((grew_drew _).trans hwt)
    clear q1 q2 q3 q4 hne hw1 hx0 hc0 hwt
    refine wpList_append_shift rfl (.tmp 22) (.tmp 25) rfl base elem_pk hown1 hi (ones_pks _) (by rfl) (by rfl) (by omega) (.inr rfl) ?_
    intro w2 ys hown2 hys hg2
    have HYS := Lib.hid hys
    clear hys
    have hml : (m : Int) ≤ (m : Int) + 1 := by omega
    have hmc : (m : Int) + 1 ≤ (cap : Int) := by omega
    obtain ⟨w3, hclr, hown3, hg3⟩ := run_clear_last (P := Try.prog) (ty := 0) base elem_pk (z := .agg #[.int .i64 0, .int .u64 0, .int .i64 0, .int .i64 0, .slice none 0 0]) (by kernel_rfl) rfl (by simp [Value.cells, Value.oneCell']) hown2 (cap - m)
    go_wp2
    go_ret
    refine ⟨rfl, ?_, (hc1'.trans (Ch.of_grown hg2)).trans (Ch.of_grown hg3)⟩
    rw [HYS.out, pks_del] at hown3
    exact hown3
end
end

/- Copied37:
  transfer.copied.
-/
section
section
set_option linter.unusedVariables false
set_option linter.unusedSimpArgs false
set_option linter.unnecessarySimpa false
open Go.RowKit
attribute [local go_sem ↓] Go.wp_at_zero Go.wp_at_succ

set_option maxRecDepth 100000 in
set_option maxHeartbeats 1000000 in
theorem copied_any (x : Pk) (w : World) (hr : Row w w.heap.size x.p.A (x.p.zs.map (.int .u8))) (hm : x.p.zs.length ≤ 70368744177664) :
    Calls Try.prog 71 #[.agg #[.int .i64 x.kind, .int .u64 x.id.1, .int .i64 x.id.2, .int .i64 x.frm, .slice x.p.A x.p.zs.length x.p.cap]] w fun e w' => ∃ A c, e = .returned (.agg #[.int .i64 x.kind, .int .u64 x.id.1, .int .i64 x.id.2, .int .i64 x.frm, .slice A x.p.zs.length c]) ∧
      w'.ownsRow w.heap.size 5 1 (.slice A x.p.zs.length c) x.p.zs.length (x.p.zs.map (.int .u8)) ∧ Grew w w' := by
  obtain ⟨k, ⟨i1, i2⟩, f, bA, bc, zs⟩ := x
  simp only at hr hm ⊢
  have g1 := grew_alloc w (.cells #[.int .i64 k, .int .u64 i1, .int .i64 i2, .int .i64 f, .slice bA zs.length bc] 55)
  have k1 := Blk.new w 55 #[.int .i64 k, .int .u64 i1, .int .i64 i2, .int .i64 f, .slice bA zs.length bc]
  have s1 : (w.alloc (.cells #[.int .i64 k, .int .u64 i1, .int .i64 i2, .int .i64 f, .slice bA zs.length bc] 55)).heap.size = w.heap.size + 1 := by simp
  generalize hw1 : w.alloc (.cells #[.int .i64 k, .int .u64 i1, .int .i64 i2, .int .i64 f, .slice bA zs.length bc] 55) = w1 at *
  have g2 := grew_alloc w1 (.cells #[.int .i64 0, .int .u64 0, .int .i64 0, .int .i64 0, .slice none 0 0] 55)
  have k2 := Blk.new w1 55 #[.int .i64 0, .int .u64 0, .int .i64 0, .int .i64 0, .slice none 0 0]
  replace k1 := k1.of g2
  have c4 := (k1.cell 4).trans (show _ = some (.slice bA zs.length bc) from rfl)
  have gg := Grew.trans g1 g2
  rw [s1] at k2
  have s2 : (w1.alloc (.cells #[.int .i64 0, .int .u64 0, .int .i64 0, .int .i64 0, .slice none 0 0] 55)).heap.size = w.heap.size + 2 := by simp [s1]
  subst hw1
  have HCl := Lib.hid (cloneB_any bA bc _ zs _ (hr.up gg (Nat.le_refl _)) gg.size hm)
  clear hr g1 g2
  go_enter Try.func71, Try.ntmps71
  go_wp2_with fail
  refine HCl.out.mono ?_
  rintro e w3 ⟨A, c, rfl, hown, hb⟩
  clear HCl
  replace gg := Grew.trans gg hb
  replace k1 := k1.of hb
  replace k2 := k2.of hb
  rw [s2] at hown
  have e0 := (k1.cell 0).trans (show _ = some (.int .i64 k) from rfl)
  have e1 := (k1.cell 1).trans (show _ = some (.int .u64 i1) from rfl)
  have e2 := (k1.cell 2).trans (show _ = some (.int .i64 i2) from rfl)
  have e3 := (k1.cell 3).trans (show _ = some (.int .i64 f) from rfl)
  have e4 := (k1.cell 4).trans (show _ = some (.slice bA zs.length bc) from rfl)
  have z4 := k1.frozen 4
  have hS1 : Ch (At w.heap.size) w3 (w3.setCell ⟨w.heap.size, 4, none⟩ (.slice A zs.length c)) := (Ch.refl (At w.heap.size) w3).set_at 4 _
  have k1s := k1.set_ 4 (.slice A zs.length c)
  have k2s := k2.ch hS1 (fun h => by have h2 : w.heap.size + 1 = w.heap.size := h; omega)
  have hos := own_ch hown hS1 (fun i hi h => by have h1 := own_lt hown i hi; have h2 : i = w.heap.size := h; omega)
  have gs := Below.trans (B := w.heap.size) gg (hS1.below gg.size (fun i hi => by have h : i = w.heap.size := hi; omega))
  have d0 := (k1s.cell 0).trans (show _ = some (.int .i64 k) from rfl)
  have d1 := (k1s.cell 1).trans (show _ = some (.int .u64 i1) from rfl)
  have d2 := (k1s.cell 2).trans (show _ = some (.int .i64 i2) from rfl)
  have d3 := (k1s.cell 3).trans (show _ = some (.int .i64 f) from rfl)
  have d4 := (k1s.cell 4).trans (show _ = some (.slice A zs.length c) from rfl)
  clear k1 k2 k1s hS1 gg hown hb s1 s2 c4
  have y0 := k2s.frozen 0
  have y1 := k2s.frozen 1
  have y2 := k2s.frozen 2
  have y3 := k2s.frozen 3
  have y4 := k2s.frozen 4
  have q0 := (k2s.cell 0).trans (show _ = some (.int .i64 0) from rfl)
  have q1 := (k2s.cell 1).trans (show _ = some (.int .u64 0) from rfl)
  have q2 := (k2s.cell 2).trans (show _ = some (.int .i64 0) from rfl)
  have q3 := (k2s.cell 3).trans (show _ = some (.int .i64 0) from rfl)
  have q4 := (k2s.cell 4).trans (show _ = some (.slice none 0 0) from rfl)
  have HFs := Lib.hid (((((k2s.set_ 0 (.int .i64 k)).set_ 1 (.int .u64 i1)).set_ 2 (.int .i64 i2)).set_ 3 (.int .i64 f)).set_ 4 (.slice A zs.length c))
  have hCs : Ch (At (w.heap.size + 1)) (w3.setCell ⟨w.heap.size, 4, none⟩ (.slice A zs.length c)) ((((((w3.setCell ⟨w.heap.size, 4, none⟩ (.slice A zs.length c)).setCell ⟨w.heap.size + 1, 0, none⟩ (.int .i64 k)).setCell ⟨w.heap.size + 1, 1, none⟩ (.int .u64 i1)).setCell ⟨w.heap.size + 1, 2, none⟩ (.int .i64 i2)).setCell ⟨w.heap.size + 1, 3, none⟩ (.int .i64 f)).setCell ⟨w.heap.size + 1, 4, none⟩ (.slice A zs.length c)) := ((((((Ch.refl (At (w.heap.size + 1)) (w3.setCell ⟨w.heap.size, 4, none⟩ (.slice A zs.length c))).set_at 0 (.int .i64 k)).set_at 1 (.int .u64 i1)).set_at 2 (.int .i64 i2)).set_at 3 (.int .i64 f)).set_at 4 (.slice A zs.length c))
  have HGs : Hid (Grew w ((((((w3.setCell ⟨w.heap.size, 4, none⟩ (.slice A zs.length c)).setCell ⟨w.heap.size + 1, 0, none⟩ (.int .i64 k)).setCell ⟨w.heap.size + 1, 1, none⟩ (.int .u64 i1)).setCell ⟨w.heap.size + 1, 2, none⟩ (.int .i64 i2)).setCell ⟨w.heap.size + 1, 3, none⟩ (.int .i64 f)).setCell ⟨w.heap.size + 1, 4, none⟩ (.slice A zs.length c))) := Lib.hid (Below.trans (B := w.heap.size) gs (hCs.below (Below.size gs) (fun i hi => by have h : i = w.heap.size + 1 := hi; omega)))
  have HOs := Lib.hid (own_ch hos hCs (fun i hi h => by have h1 := own_lt hos i hi; have h2 : i = w.heap.size + 1 := h; omega))
  clear hCs
  clear k2s gs hos
  go_wp2_with fail
  have f0 := (HFs.out.cell 0).trans (show _ = some (.int .i64 k) from rfl)
  have f1 := (HFs.out.cell 1).trans (show _ = some (.int .u64 i1) from rfl)
  have f2 := (HFs.out.cell 2).trans (show _ = some (.int .i64 i2) from rfl)
  have f3 := (HFs.out.cell 3).trans (show _ = some (.int .i64 f) from rfl)
  have f4 := (HFs.out.cell 4).trans (show _ = some (.slice A zs.length c) from rfl)
  refine bodyPost_ret (v := .agg #[.int .i64 k, .int .u64 i1, .int .i64 i2, .int .i64 f, .slice A zs.length c]) ?_ rfl ⟨A, c, rfl, own_mono HOs.out (by omega), HGs.out⟩
  simp [results, Try.results71, go_sem, pk0, f0, f1, f2, f3, f4]
end
end

/- Ins37a:
  copy and append of a make onto slices of structs that a function owns.
-/
section
section
set_option linter.unusedVariables false
set_option linter.unusedSimpArgs false
set_option linter.unnecessarySimpa false
open Go.RowKit

section
variable {P : Program} {w : World}
theorem run_copy_own (base : Nat) {t ty e : TypeId} {size bytes : Nat} (E : Elem P t e size bytes) {g n cap : Nat} {xs : List Value} (hown : w.ownsRow base e size (.slice (some ⟨g, 0, none⟩) n cap) n xs)
    {k m dLen sLen : Nat} (hk : k + m ≤ n) (hm : Nat.min sLen dLen = m) (a : Addr) (sCap dCap : Nat) (news : List Value) (hl : news.length = m * size) (hsrc : ∀ j v, news[j]? = some v → w.cell? (a.add j) = some v) (h1 : ∀ v ∈ news, v.oneCell' = true) :
    ∃ w', (Builtin.copy_ #[t, t] ty #[.slice (some ⟨g, k * size, none⟩) dLen dCap, .slice (some a) sLen sCap]).run P w = .ok (goInt m) w' ∧
      w'.ownsRow base e size (.slice (some ⟨g, 0, none⟩) n cap) n (xs.take (k * size) ++ news ++ xs.drop ((k + m) * size)) ∧ w.grownBy w' (some g) := by
  obtain ⟨inf, z, hinf, hz, hsz, hby, hzs⟩ := E.hi
  rcases hown.2 with ⟨h', _⟩ | ⟨g', cap', cur, h', hb, hg, hnc, hcm, hcs, htake⟩
  · simp at h'
  · simp only [Value.slice.injEq, Option.some.injEq, Addr.mk.injEq, and_true, true_and] at h'
    obtain ⟨rfl, rfl⟩ := h'
    have hkm : (k + m) * size = k * size + m * size := Nat.add_mul _ _ _
    have hcap : n * size ≤ cap * size := Nat.mul_le_mul_right _ hnc
    have hkn : (k + m) * size ≤ n * size := Nat.mul_le_mul_right _ hk
    have hcl : cur.toList.length = cap * size := by rw [Array.length_toList, hcs]
    have hload := run_loadCells_list (P := P) w a news hsrc
    rw [hl] at hload
    have hst := run_storeCells_at P g (k * size) e news 0 cur w hg (by rw [hl, hcs]; omega) h1
    simp only [Nat.add_zero, hl] at hst
    refine ⟨w.setRow g (cur.toList.take (k * size) ++ news ++ cur.toList.drop (k * size + m * size)).toArray, ?_, ⟨?_, .inr ⟨g, cap, _, rfl, hb, setRow_heap w g cur _ e (0, 0) hg, hnc, hcm, ?_, ?_⟩⟩, grown_setRow _ _ _⟩
    · simp [Builtin.copy_, run_underlying E.ht, Builtin.lenOf, Builtin.firstCells, sizeOf, typeInfo, hinf, hsz, hm, hload, hst]
    · rw [List.length_append, List.length_append, List.length_take, List.length_drop, hown.1, hl]; omega
    · simp only [List.size_toArray]
      rw [List.length_append, List.length_append, List.length_take, List.length_drop, hcl, hl]; omega
    · simp only
      rw [← htake, List.take_take, Nat.min_eq_left (by omega), hkm]
      have hA : (cur.toList.take (k * size) ++ news).length = k * size + m * size := by rw [List.length_append, List.length_take, hcl, hl]; omega
      rw [List.take_append, List.take_of_length_le (by rw [hA]; omega), hA, List.drop_take]
theorem wp_copy_run37 {o : Oper} {a : Act} {K : Act → World → Prop} {Q : Exit → Act → World → Prop} (d s : Operand) (t t' : TypeId)
    (ho : o.op = .call { callee := .builtin .copy, args := #[d, s], argTypes := #[t, t'] }) (v u : Value) (hd : a.eval d = v) (hs : a.eval s = u) {v' : Value} {w' : World}
    (hr : (Builtin.copy_ #[t, t'] o.type #[v, u]).run P w = .ok v' w') (h : K (a.put o.dst v') w') : o.wp P a w K Q := by
  unfold Oper.wp execOp
  simp only [ho, resolve, invoke, builtin, Sem.run_bind, Sem.run_pure, Result.andThen_ok, List.map_toArray, List.map_cons, List.map_nil, hd, hs, hr]
  exact h
theorem wpList_copy_run37 {ops : Array Oper} {rest : List Oper} {o : Oper} {a : Act} {Q : Exit → Act → World → Prop} (hgd : o.guard = none) (d s : Operand) (t t' : TypeId)
    (ho : o.op = .call { callee := .builtin .copy, args := #[d, s], argTypes := #[t, t'] }) (v u : Value) (hd : a.eval d = v) (hs : a.eval s = u) {v' : Value} {w' : World}
    (hr : (Builtin.copy_ #[t, t'] o.type #[v, u]).run P w = .ok v' w') (h : wpList P ops Q rest (a.put o.dst v') w') : wpList P ops Q (o :: rest) a w :=
  wpList_plain hgd fun _ hK => wp_copy_run37 d s t t' ho v u hd hs hr (hK _ _ h)
theorem run_append_zeros_own (base : Nat) {t tn ty e : TypeId} {size bytes : Nat} (E : Elem P t e size bytes) {kn : IntKind} (htn : P.underlying tn = some (.int kn)) {g n cap i k : Nat} {xs : List Value} (hown : w.ownsRow base e size (.slice (some ⟨g, 0, none⟩) n cap) n xs)
    (hi : i ≤ n) (h0 : 0 < k) (hg : cap < i + k) (h63 : i + k ≤ 9223372036854775807) (hbig : (i + k) * bytes ≤ 140737488355328) (hbase : base ≤ w.heap.size) {v : Int} (hv : v = (k : Int)) :
    ∃ cap' w' ys, (Builtin.append_ #[t, tn] ty #[.slice (some ⟨g, 0, none⟩) i cap, .int .i64 v]).run P w = .ok (.slice (some ⟨w.heap.size, 0, none⟩) (i + k) cap') w' ∧
      w'.ownsRow base e size (.slice (some ⟨w.heap.size, 0, none⟩) (i + k) cap') (i + k) ys ∧ ys.take (i * size) = xs.take (i * size) ∧ Below w.heap.size w w' := by
  subst hv
  obtain ⟨inf, z, hinf, hz, hsz, hby, hzs⟩ := E.hi
  have hin : i * size ≤ n * size := Nat.mul_le_mul_right _ hi
  have hxl : (xs.take (i * size)).length = i * size := by rw [List.length_take, hown.1]; omega
  have hold : (Builtin.firstCells inf.size i (.slice (some ⟨g, 0, none⟩) i cap)).run P w.drew = .ok (xs.take (i * size)).toArray w.drew := by
    refine run_firstCells_some w.drew _ _ _ _ _ _ (by rw [hxl, hsz]) (fun j v hj => ?_)
    rw [List.getElem?_take] at hj
    split at hj
    · rename_i hji
      rw [Addr.add_lit, Nat.zero_add]
      exact (hown.cellAt j (by omega)).trans hj
    · cases hj
  have hfit := growslice_fits hg hbig
  have hkb : k * bytes ≤ 281474976710656 := by
    have : k * bytes ≤ (i + k) * bytes := Nat.mul_le_mul_right _ (by omega)
    omega
  have hrun := Lib.run_append_grow_zeros w t tn ty e inf z .i64 kn E.ht htn hinf hz (some ⟨g, 0, none⟩) i cap _ hold k h0 (by rw [hsz]; exact E.hsz) hg (by omega) (by rw [hby]; exact hkb) (by rw [hby]; exact hfit)
  have hG := grownCap_ge w (i + k) cap e
  have hGm := grownCap_le_maxLen w (i + k) cap e (by unfold maxLen; omega)
  generalize grownCap w (i + k) cap e = G at *
  have hzk : ∀ q, (Builtin.zeroCells z.cells q).size = q * size := fun q => by simp [Builtin.zeroCells, hzs]
  have hik : (i + k) * size = i * size + k * size := Nat.add_mul _ _ _
  have hGs : (G - (i + k)) * size = G * size - (i + k) * size := Nat.sub_mul _ _ _
  have hGl : (i + k) * size ≤ G * size := Nat.mul_le_mul_right _ hG
  have hcs : ((xs.take (i * size)).toArray ++ Builtin.zeroCells z.cells k ++ Builtin.zeroCells z.cells (G - (i + k))).size = G * size := by
    simp only [Array.size_append, List.size_toArray, hxl, hzk]
    omega
  refine ⟨G, _, (((xs.take (i * size)).toArray ++ Builtin.zeroCells z.cells k ++ Builtin.zeroCells z.cells (G - (i + k)))).toList.take ((i + k) * size), hrun, ⟨?_, .inr ⟨w.heap.size, G, _, rfl, hbase, heap_alloc_new w.drew _, hG, hGm, hcs, rfl⟩⟩, ?_, ?_⟩
  · rw [List.length_take, Array.length_toList, hcs]; omega
  · rw [List.take_take, Nat.min_eq_left (by omega)]
    simp only [Array.toList_append]
    rw [List.append_assoc, List.take_append_of_le_length (by rw [hxl]; exact Nat.le_refl _), List.take_take, Nat.min_self]
  · exact (grew_drew w).trans (grew_alloc w.drew _)
/-- spare room counts as elements -/
theorem own_spare {base : Nat} {e : TypeId} {size g n cap m : Nat} {xs : List Value} (h : w.ownsRow base e size (.slice (some ⟨g, 0, none⟩) n cap) n xs) (hm : n ≤ m) (hc : m ≤ cap) :
    ∃ ys, w.ownsRow base e size (.slice (some ⟨g, 0, none⟩) m cap) m ys ∧ ys.take (n * size) = xs := by
  rcases h.2 with ⟨h', _⟩ | ⟨g', cap', cur, h', hb, hg, hnc, hcm, hcs, htake⟩
  · simp at h'
  · simp only [Value.slice.injEq, Option.some.injEq, Addr.mk.injEq, and_true, true_and] at h'
    obtain ⟨rfl, rfl⟩ := h'
    have hms : n * size ≤ m * size := Nat.mul_le_mul_right _ hm
    have hmc : m * size ≤ cap * size := Nat.mul_le_mul_right _ hc
    refine ⟨cur.toList.take (m * size), ⟨?_, .inr ⟨g, cap, cur, rfl, hb, hg, hc, hcm, hcs, rfl⟩⟩, ?_⟩
    · rw [List.length_take, Array.length_toList, hcs]; omega
    · rw [List.take_take, Nat.min_eq_left hms, htake]
end
end
end

/- Ins37:
  slices.Insert of one packet.
-/
section
section
set_option linter.unusedVariables false
set_option linter.unusedSimpArgs false
set_option linter.unnecessarySimpa false
open Go.RowKit
attribute [local go_sem ↓] Go.wp_at_zero Go.wp_at_succ

/-- l with x ahead of place i -/
def insP (l : List Pk) (i : Nat) (x : Pk) : List Pk := l.take i ++ x :: l.drop i
theorem insP_length (l : List Pk) (i : Nat) (x : Pk) : (insP l i x).length = l.length + 1 := by
  unfold insP; rw [List.length_append, List.length_cons, List.length_take, List.length_drop]; omega
theorem pksC_one (x : Pk) : pksC [x] = pkC x := by simp [pksC]
theorem pksC_take (l : List Pk) (i : Nat) : (pksC l).take (i * 5) = pksC (l.take i) := flat_take (f := pkC) (c := 5) (fun _ => rfl) _ _
theorem pksC_drop (l : List Pk) (i : Nat) : (pksC l).drop (i * 5) = pksC (l.drop i) := flat_drop (f := pkC) (c := 5) (fun _ => rfl) _ _
theorem pksC_ins (l : List Pk) (i : Nat) (x : Pk) : pksC (insP l i x) = (pksC l).take (i * 5) ++ pkC x ++ (pksC l).drop (i * 5) := by
  rw [pksC_take, pksC_drop]
  unfold insP
  rw [pksC_append, show x :: l.drop i = [x] ++ l.drop i from rfl, pksC_append, pksC_one, List.append_assoc]
theorem ones_pk (x : Pk) : ∀ u ∈ pkC x, u.oneCell' = true := fun u hu => ones_pks [x] u (by rw [pksC_one]; exact hu)

def InsRes (g n base i : Nat) (l : List Pk) (x : Pk) (w : World) (e : Ending) (w' : World) : Prop := ∃ A c, e = .returned (.slice A (n + 1) c) ∧
  w'.ownsRow base 55 5 (.slice A (n + 1) c) (n + 1) (pksC (insP l i x)) ∧ Ch (At g) w w'

set_option maxRecDepth 100000 in
set_option maxHeartbeats 1000000 in
theorem insert_end (g n cap base vb : Nat) (l : List Pk) (x : Pk) (w : World) (hown : w.ownsRow base 55 5 (.slice (some ⟨g, 0, none⟩) n cap) n (pksC l)) (hl : l.length = n)
    (kV : Blk w vb 55 (pkC x).toArray) (hn : n ≤ 16777216) (hbase : base ≤ w.heap.size) :
    Calls Try.prog 82 #[.slice (some ⟨g, 0, none⟩) n cap, .int .i64 n, .slice (some ⟨vb, 0, none⟩) 1 1] w (InsRes g n base n l x w) := by
  obtain ⟨hc1, hc2⟩ := own_cap hown
  have HK := Lib.hid kV.row
  clear kV
  go_enter Try.func82, Try.ntmps82
  go_wp2_with (at_builtin; refine wpList_append_row rfl (.tmp 23) (.tmp 24) rfl base elem_pk (by rfl) hown _ (by rfl) (by rfl) HK.out (ones_pk x) (by unfold maxLen; omega) (by omega) (by first | omega | (simp; omega)) ?_; intro A' c' w' hown' hg hwh)
  all_goals
    go_ret
    refine ⟨A', c', rfl, ?_, ?_⟩
    · rw [pksC_ins, ← hl, List.take_of_length_le (by rw [pksC_len]; omega), List.drop_of_length_le (by rw [pksC_len]; omega), List.append_nil, hl]
      exact hown'
    · exact Ch.of_grown hg

set_option maxRecDepth 100000 in
set_option maxHeartbeats 1000000 in
theorem insert_grow (g n base i vb : Nat) (l : List Pk) (x : Pk) (w : World) (hown : w.ownsRow base 55 5 (.slice (some ⟨g, 0, none⟩) n n) n (pksC l)) (hl : l.length = n)
    (kV : Blk w vb 55 (pkC x).toArray) (hi : i < n) (hn : n ≤ 16777216) (hbase : base ≤ w.heap.size) :
    Calls Try.prog 82 #[.slice (some ⟨g, 0, none⟩) n n, .int .i64 i, .slice (some ⟨vb, 0, none⟩) 1 1] w (InsRes g n base i l x w) := by
  have hz2 : ¬ ((i : Int) = (n : Int)) := by omega
  have hkk : (n : Int) + 1 - (i : Int) = ((n + 1 - i : Nat) : Int) := by omega
  have hin : i ≤ n := by omega
  have hbw : g < w.heap.size := (hown.lt g rfl).2
  have HX := run_append_zeros_own (P := Try.prog) (tn := 3) (ty := 49) base elem_pk (kn := .i64) (by kernel_rfl) hown (i := i) (k := n + 1 - i) hin (by omega) (by omega) (by omega) (by omega) hbase hkk
  obtain ⟨G, w1, ys, hrz, hown1, hys, hb1⟩ := HX
  rw [show i + (n + 1 - i) = n + 1 by omega] at hrz hown1
  obtain ⟨hG1, hG2⟩ := own_cap hown1
  have hGi : ¬ G = i := by omega
  have hGi1 : ¬ G = i + 1 := by omega
  have hvl := kV.lt
  have hcell : ∀ j v, (pkC x)[j]? = some v → w1.cell? ((⟨vb, 0, none⟩ : Addr).add j) = some v := fun j v hj => by
    rw [Addr.add_lit, Nat.zero_add]
    refine ((kV.of hb1).cell j).trans ?_
    rw [List.getElem?_toArray]
    exact hj
  obtain ⟨w2, hcp1, hown2, hg2⟩ := run_copy_own (P := Try.prog) (ty := 3) base elem_pk hown1 (k := i) (m := 1) (dLen := n + 1 - i) (sLen := 1) (by omega) (by simp only [Nat.min_def]; split <;> omega) ⟨vb, 0, none⟩ 1 (G - i) (pkC x) rfl hcell (ones_pk x)
  have hsrc2 : ∀ W, Below w.heap.size w W → ∀ j v, ((pksC l).drop (i * 5))[j]? = some v → W.cell? ((⟨g, i * 5, none⟩ : Addr).add j) = some v := fun W hW j v hj => by
    rw [List.getElem?_drop] at hj
    rw [Addr.add_lit]
    refine (hW.cell (p := ⟨g, i * 5 + j, none⟩) hbw).trans ?_
    exact (hown.cellAt _ (by rw [← hown.1]; exact (List.getElem?_eq_some_iff.1 hj).1)).trans hj
  have HS2 := Lib.hid hsrc2
  have hb2 : Below w.heap.size w w2 := hb1.grown hg2 hb1.size (fun k hk => by injection hk with hk; omega)
  have HB := Lib.hid hb2
  have HOwn := Lib.hid hown
  generalize hgh : w.heap.size = gh at *
  have HGh := Lib.hid hgh
  clear hkk hsrc2 hcell hb1 hown hgh
  go_enter Try.func82, Try.ntmps82
  go_wp2_with (at_builtin; refine Lib.wpList_append_run _ rfl _ _ _ _ rfl _ _ rfl rfl _ _ hrz ?_)
  have hw1 : IntKind.i64.wrap ((i : Int) + 1) = (i : Int) + 1 := Go.IntWalk.i64_in _ (by omega)
  have q2 : (i : Int) + 1 ≤ (n : Int) + 1 := by omega
  have q3 : 0 ≤ (i : Int) + 1 := by omega
  have q4 : ((i : Int) + 1).toNat = i + 1 := by omega
  have q5 : ¬ (n = i) := by omega
  have q6 : (i : Int) ≤ (n : Int) := by omega
  have hx0 := Ch.refl (At gh) w2
  have HOwn2 := Lib.hid hown2
  clear hrz hcp1 hown1 hown2 hb2 hg2
  refine wp_region_cls (Ch (At gh) w2) 8 (by kernel_rfl) ?_
  have hc0 := hx0.drew
  refine AllC.head 0 8 (fuel := 1) (by first | exact fun h k => Grew.trans h k | exact fun h k => cls_grew h k) (hc0) (by rfl) (by kernel_rfl) ?_
  simp only [List.take_succ_cons, List.take_zero, List.drop_succ_cons, List.drop_zero]
  repeat (first
    | (refine HeadC.val (by rfl) ?_
       apply Exists.intro
       refine ⟨fun w' hw' => ?_, ?_⟩
       · (have hf_0 := hc0; (go_simp) <;> (try go_ints) <;> with_reducible rfl)
       try simp only [Act.put, List.setIfInBounds_toArray, List.set_cons_zero, List.set_cons_succ])
    | (refine HeadC.shut (by rfl) ?_
       try simp only [Act.put, List.setIfInBounds_toArray, List.set_cons_zero, List.set_cons_succ]))
  refine HeadC.nil ?_
  refine AllC.tail 8 (by rfl) (by kernel_rfl) ?_
  intro wt hwt
  simp only [List.drop_succ_cons, List.drop_zero]
  have hbt : Below gh w wt := HB.out.trans ((grew_drew w2).trans hwt |>.mono (by have := HB.out.size; have := HGh.out; omega))
  have hownt := own_below HOwn2.out ((grew_drew w2).trans hwt)
  have hdl : ((pksC l).drop (i * 5)).length = (n - i) * 5 := by rw [List.length_drop, pksC_len, hl, Nat.sub_mul]
  obtain ⟨w3, hcp3, hown3, hg3⟩ := run_copy_own (P := Try.prog) (ty := 3) base elem_pk hownt (k := i + 1) (m := n - i) (dLen := n + 1 - (i + 1)) (sLen := n - i) (by omega) (by simp only [Nat.min_def]; split <;> omega) ⟨g, i * 5, none⟩ (n - i) (G - (i + 1)) ((pksC l).drop (i * 5)) hdl (HS2.out wt hbt) (fun v hv => ones_pks l v (List.mem_of_mem_drop hv))
  have hbE : Below gh w w3 := hbt.grown hg3 (by have := hbt.size; have := HGh.out; omega) (fun k hk => by injection hk with hk; omega)
  have HB3 := Lib.hid hbE
  have HO3 := Lib.hid hown3
  clear hwt hc0 hx0 hbt hownt hbE hown3 hg3
  rw [show n + 1 - (i + 1) = n - i by omega] at hcp3
  refine wpList_copy_run37 rfl _ _ _ _ rfl _ _ rfl rfl hcp3 ?_
  go_wp2
  go_ret
  refine ⟨_, _, rfl, ?_, Ch.of_below (by rw [HGh.out]; exact HB3.out)⟩
  have hE : ((ys.take (i * 5) ++ pkC x ++ ys.drop ((i + 1) * 5)).take ((i + 1) * 5) ++ (pksC l).drop (i * 5) ++ (ys.take (i * 5) ++ pkC x ++ ys.drop ((i + 1) * 5)).drop ((i + 1 + (n - i)) * 5)) = pksC (insP l i x) := by
    have h5 : (pkC x).length = 5 := rfl
    have hyl : (ys.take (i * 5)).length = i * 5 := by rw [hys, List.length_take, pksC_len, hl]; omega
    have hA : (ys.take (i * 5) ++ pkC x).length = (i + 1) * 5 := by rw [List.length_append, hyl, h5]; omega
    rw [pksC_ins, ← hys]
    have hB : (ys.take (i * 5) ++ pkC x ++ ys.drop ((i + 1) * 5)).length ≤ (n + 1) * 5 := Nat.le_of_eq HOwn2.out.1
    rw [List.take_append_of_le_length (by rw [hA]; exact Nat.le_refl _), List.take_of_length_le (by rw [hA]; exact Nat.le_refl _), List.drop_of_length_le (Nat.le_trans hB (by omega)), List.append_nil]
  rw [← hE]
  exact HO3.out

theorem shape_blk {w : World} {g : Nat} {t : TypeId} {cs : Array Value} (h : Blk w g t cs) : w.shape? g = some (t, cs.size) := by
  unfold World.shape?
  rw [show w.heap[g]? = some (.cells cs t (0, 0)) from h]
theorem shape_own {w : World} {base : Nat} {e : TypeId} {size g n cap : Nat} {xs : List Value} (h : w.ownsRow base e size (.slice (some ⟨g, 0, none⟩) n cap) n xs) : w.shape? g = some (e, cap * size) := by
  rcases h.2 with ⟨h', _⟩ | ⟨g', cap', cur, h', hb, hg, hnc, hcm, hcs, htake⟩
  · simp at h'
  · simp only [Value.slice.injEq, Option.some.injEq, Addr.mk.injEq, and_true, true_and] at h'
    obtain ⟨rfl, rfl⟩ := h'
    unfold World.shape?
    rw [hg]
    simp only
    rw [hcs]
set_option maxRecDepth 100000 in
set_option maxHeartbeats 1000000 in
theorem insert_shift (g n cap base i vb : Nat) (l : List Pk) (x : Pk) (w : World) (hown : w.ownsRow base 55 5 (.slice (some ⟨g, 0, none⟩) n cap) n (pksC l)) (hl : l.length = n)
    (kV : Blk w vb 55 (pkC x).toArray) (hne : vb ≠ g) (hi : i < n) (hcap : n + 1 ≤ cap) (hn : n ≤ 16777216) (hbase : base ≤ w.heap.size) :
    Calls Try.prog 82 #[.slice (some ⟨g, 0, none⟩) n cap, .int .i64 i, .slice (some ⟨vb, 0, none⟩) 1 1] w (InsRes g n base i l x w) := by
  obtain ⟨hc1, hc2⟩ := own_cap hown
  have hz2 : ¬ ((i : Int) = (n : Int)) := by omega
  have hin : i ≤ n := by omega
  have hbw : g < w.heap.size := (hown.lt g rfl).2
  have hov : ∀ W, Grew w W → ∀ lb cb, (callFunc 88 #[.slice (some ⟨vb, 0, none⟩) 1 1, .slice (some ⟨g, (i + 1) * 5, none⟩) lb cb]).run Try.prog W = .ok (.value (.bool false)) W := fun W hW lb cb => by
    rw [run_callFunc_extern Try.func88 (by kernel_rfl) (by kernel_rfl) (by kernel_rfl) (e := Extern.SlicesOverlaps.overlaps #[49, 49] #[4]) (by kernel_rfl)]
    rw [Lib.run_overlaps_apart W 49 4 55 Try.underlying49 5 (fun w => by kernel_rfl) ⟨vb, 0, none⟩ ⟨g, (i + 1) * 5, none⟩ 1 1 lb cb hne 55 55 5 (cap * 5) (shape_blk (kV.of hW)) (shape_own (own_below hown hW)) (by omega) ((kV.of hW).frozen 0) ((kV.of hW).frozen 5)]
    rfl
  have HOv := Lib.hid hov
  have hov0 := hov w (Grew.refl _)
  have HOwn := Lib.hid hown
  have HV := Lib.hid kV
  obtain ⟨ys, hown1, hys⟩ := own_spare hown (m := n + 1) (by omega) hcap
  have HOwn1 := Lib.hid hown1
  have hw1 : IntKind.i64.wrap ((i : Int) + 1) = (i : Int) + 1 := Go.IntWalk.i64_in _ (by omega)
  have q1 : (n : Int) + 1 ≤ (cap : Int) := by omega
  have q2 : (i : Int) + 1 ≤ (n : Int) + 1 := by omega
  have q3 : 0 ≤ (i : Int) + 1 := by omega
  have q4 : ((i : Int) + 1).toNat = i + 1 := by omega
  have q5 : ¬ cap = i + 1 := by omega
  have q6 : (i : Int) ≤ (n : Int) + 1 := by omega
  have q7 : ¬ cap = i := by omega
  clear hown kV hown1 hov
  go_enter Try.func82, Try.ntmps82
  go_wp2_with (simp only [hov0])
  have hx0 := Ch.refl (At g) w
  refine wp_region_cls (Ch (At g) w) 8 (by kernel_rfl) ?_
  have hc0 := hx0.drew
  refine AllC.head 0 8 (fuel := 1) (by first | exact fun h k => Grew.trans h k | exact fun h k => cls_grew h k) (hc0) (by rfl) (by kernel_rfl) ?_
  simp only [List.take_succ_cons, List.take_zero, List.drop_succ_cons, List.drop_zero]
  repeat (first
    | (refine HeadC.val (by rfl) ?_
       apply Exists.intro
       refine ⟨fun w' hw' => ?_, ?_⟩
       · (have hf_0 := hc0; (go_simp) <;> (try go_ints) <;> with_reducible rfl)
       try simp only [Act.put, List.setIfInBounds_toArray, List.set_cons_zero, List.set_cons_succ])
    | (refine HeadC.shut (by rfl) ?_
       try simp only [Act.put, List.setIfInBounds_toArray, List.set_cons_zero, List.set_cons_succ]))
  refine HeadC.nil ?_
  refine AllC.tail 8 (by rfl) (by kernel_rfl) ?_
  intro wt hwt
  simp only [List.drop_succ_cons, List.drop_zero]
  have hg1 : Grew w wt := (grew_drew w).trans hwt
  have hownt := own_below HOwn1.out hg1
  have hdl : ((pksC l).drop (i * 5)).length = (n - i) * 5 := by rw [List.length_drop, pksC_len, hl, Nat.sub_mul]
  have hsrc : ∀ j v, ((pksC l).drop (i * 5))[j]? = some v → wt.cell? ((⟨g, i * 5, none⟩ : Addr).add j) = some v := fun j v hj => by
    rw [List.getElem?_drop] at hj
    rw [Addr.add_lit]
    refine (hg1.cell (p := ⟨g, i * 5 + j, none⟩) hbw).trans ?_
    exact (HOwn.out.cellAt _ (by rw [← HOwn.out.1]; exact (List.getElem?_eq_some_iff.1 hj).1)).trans hj
  obtain ⟨w3, hcp3, hown3, hg3⟩ := run_copy_own (P := Try.prog) (ty := 3) base elem_pk hownt (k := i + 1) (m := n - i) (dLen := n + 1 - (i + 1)) (sLen := n + 1 - i) (by omega) (by simp only [Nat.min_def]; split <;> omega) ⟨g, i * 5, none⟩ (cap - i) (cap - (i + 1)) ((pksC l).drop (i * 5)) hdl hsrc (fun v hv => ones_pks l v (List.mem_of_mem_drop hv))
  have hc3 : Ch (At g) w w3 := ((Ch.refl (At g) w).next hg1).trans (Ch.of_grown hg3)
  have hV3 := HV.out.ch hc3 hne
  have hcell : ∀ j v, (pkC x)[j]? = some v → w3.cell? ((⟨vb, 0, none⟩ : Addr).add j) = some v := fun j v hj => by
    rw [Addr.add_lit, Nat.zero_add]
    refine (hV3.cell j).trans ?_
    rw [List.getElem?_toArray]
    exact hj
  obtain ⟨w4, hcp4, hown4, hg4⟩ := run_copy_own (P := Try.prog) (ty := 3) base elem_pk hown3 (k := i) (m := 1) (dLen := n + 1 - i) (sLen := 1) (by omega) (by simp only [Nat.min_def]; split <;> omega) ⟨vb, 0, none⟩ 1 (cap - i) (pkC x) rfl hcell (ones_pk x)
  have HC := Lib.hid (hc3.trans (Ch.of_grown hg4))
  have HO4 := Lib.hid hown4
  clear hwt hc0 hx0 hownt hg1 hown3 hg3 hown4 hg4 hcell hV3 hc3 hsrc hov0
  rw [show n + 1 - (i + 1) = n - i by omega] at hcp3
  refine wpList_copy_run37 rfl _ _ _ _ rfl _ _ rfl rfl hcp3 ?_
  go_wp2
  go_ret
  refine ⟨_, _, rfl, ?_, HC.out⟩
  have hE : ((ys.take ((i + 1) * 5) ++ (pksC l).drop (i * 5) ++ ys.drop ((i + 1 + (n - i)) * 5)).take (i * 5) ++ pkC x ++ (ys.take ((i + 1) * 5) ++ (pksC l).drop (i * 5) ++ ys.drop ((i + 1 + (n - i)) * 5)).drop ((i + 1) * 5)) = pksC (insP l i x) := by
    have hyl := HOwn1.out.1
    have h1 : (ys.take ((i + 1) * 5)).length = (i + 1) * 5 := by rw [List.length_take]; omega
    have h2 : ys.drop ((i + 1 + (n - i)) * 5) = [] := List.drop_of_length_le (by omega)
    rw [h2, List.append_nil, pksC_ins, List.take_append_of_le_length (by omega), List.take_take, Nat.min_eq_left (by omega), List.drop_append, h1, Nat.sub_self, List.drop_zero, List.drop_of_length_le (by omega), List.nil_append, ← hys, List.take_take, Nat.min_eq_left (by omega)]
  rw [← hE]
  exact HO4.out
theorem insert_pk (g n cap base i vb : Nat) (l : List Pk) (x : Pk) (w : World) (hown : w.ownsRow base 55 5 (.slice (some ⟨g, 0, none⟩) n cap) n (pksC l)) (hl : l.length = n)
    (kV : Blk w vb 55 (pkC x).toArray) (hne : vb ≠ g) (hi : i ≤ n) (hn : n ≤ 16777216) (hbase : base ≤ w.heap.size) :
    Calls Try.prog 82 #[.slice (some ⟨g, 0, none⟩) n cap, .int .i64 i, .slice (some ⟨vb, 0, none⟩) 1 1] w (InsRes g n base i l x w) := by
  obtain ⟨hc1, hc2⟩ := own_cap hown
  rcases Nat.lt_or_ge i n with h | h
  · rcases Nat.lt_or_ge n cap with hc | hc
    · exact insert_shift g n cap base i vb l x w hown hl kV hne h hc hn hbase
    · obtain rfl : cap = n := by omega
      exact insert_grow g cap base i vb l x w hown hl kV h hn hbase
  · obtain rfl : i = n := by omega
    exact insert_end g i cap base vb l x w hown hl kV hn hbase
end
end

/- Pks37:
  Packets without addresses; what a channel does to them (P37.6); packets that own their bytes.
-/
section
section
set_option linter.unusedVariables false
set_option linter.unusedSimpArgs false
set_option linter.unnecessarySimpa false
open Go.RowKit

/-- a packet without its address -/
structure PkZ where
  kind : Int
  id : IdZ
  frm : Int
  zs : List Int
def Pk.z (x : Pk) : PkZ := ⟨x.kind, x.id, x.frm, x.p.zs⟩
/-- a fault -/
structure FtZ where
  kind : Int
  at_ : Int
  by_ : Int
def ftC (f : FtZ) : List Value := [.int .i64 f.kind, .int .i64 f.at_, .int .i64 f.by_]
def ftsC (l : List FtZ) : List Value := l.flatMap ftC
theorem ftsC_len (l : List FtZ) : (ftsC l).length = l.length * 3 := by
  induction l with
  | nil => rfl
  | cons x l ih => simp only [ftsC, List.flatMap_cons, List.length_append, List.length_cons] at ih ⊢; rw [ih]; simp [ftC]; omega
theorem ftsC_append (l m : List FtZ) : ftsC (l ++ m) = ftsC l ++ ftsC m := by simp [ftsC]
/-- a byte with bit b turned -/
def flipV (z : Int) (b : Nat) : Int := bits .xor .u8 z ((2 : Int) ^ b % 256)
def flipZ (zs : List Int) (b : Nat) : List Int := zs.set (b / 8) (flipV (zs.getD (b / 8) 0) (b % 8))
theorem flipZ_length (zs : List Int) (b : Nat) : (flipZ zs b).length = zs.length := by unfold flipZ; rw [List.length_set]
def PkZ.flip (x : PkZ) (b : Nat) : PkZ := { x with zs := flipZ x.zs b }
/-- a fault strikes a list of packets: P37.6 -/
def strike (l : List PkZ) (f : FtZ) : List PkZ :=
  if h : 0 ≤ f.at_ ∧ f.at_ < l.length then
    let a := f.at_.toNat
    if f.kind = 1 then l.eraseIdx a
    else if f.kind = 2 then l.take (a + 1) ++ l[a]'(by omega) :: l.drop (a + 1)
    else if f.kind = 3 then
      if h2 : 0 ≤ f.at_ + f.by_ ∧ f.at_ + f.by_ < l.length then (l.set a (l[(f.at_ + f.by_).toNat]'(by omega))).set (f.at_ + f.by_).toNat (l[a]'(by omega)) else l
    else if f.kind = 4 then
      if 0 ≤ f.by_ ∧ f.by_ / 8 < (l[a]'(by omega)).zs.length then l.set a ((l[a]'(by omega)).flip f.by_.toNat) else l
    else l
  else l
def carryZ (l : List PkZ) (fs : List FtZ) : List PkZ := fs.foldl strike l
theorem strike_no {l : List PkZ} {f : FtZ} (h : ¬ (0 ≤ f.at_ ∧ f.at_ < l.length)) : strike l f = l := by unfold strike; rw [dif_neg h]
theorem strike_length (l : List PkZ) (f : FtZ) : (strike l f).length ≤ l.length + 1 := by
  unfold strike
  split
  · rename_i h
    simp only
    split
    · rw [List.length_eraseIdx]; split <;> omega
    · split
      · rw [List.length_append, List.length_cons, List.length_take, List.length_drop]; omega
      · split
        · split
          · simp only [List.length_set]; omega
          · omega
        · split
          · split
            · simp only [List.length_set]; omega
            · omega
          · omega
  · omega
/-- what a fault leaves was there, or is there with a bit turned -/
theorem strike_mem {l : List PkZ} {f : FtZ} {y : PkZ} (h : y ∈ strike l f) : y ∈ l ∨ ∃ x ∈ l, ∃ b : Nat, f.kind = 4 ∧ f.by_ = b ∧ b / 8 < x.zs.length ∧ y = x.flip b := by
  unfold strike at h
  split at h
  · rename_i hat
    simp only at h
    split at h
    · exact .inl (List.mem_of_mem_eraseIdx h)
    · split at h
      · rcases List.mem_append.1 h with h | h
        · exact .inl (List.mem_of_mem_take h)
        · rcases List.mem_cons.1 h with rfl | h
          · exact .inl (List.getElem_mem _)
          · exact .inl (List.mem_of_mem_drop h)
      · split at h
        · split at h
          · exact .inl ((List.set_set_perm (by omega) (by omega)).mem_iff.1 h)
          · exact .inl h
        · split at h
          · rename_i k4
            split at h
            · rename_i hb
              rcases List.mem_or_eq_of_mem_set h with h | rfl
              · exact .inl h
              · exact .inr ⟨_, List.getElem_mem _, f.by_.toNat, k4, by omega, by omega, rfl⟩
            · exact .inl h
          · exact .inl h
  · exact .inl h
theorem strike_len {l : List PkZ} {f : FtZ} {y : PkZ} (h : y ∈ strike l f) : ∃ x ∈ l, y.zs.length = x.zs.length ∧ y.kind = x.kind ∧ y.id = x.id ∧ y.frm = x.frm := by
  rcases strike_mem h with h | ⟨x, hx, b, _, _, _, rfl⟩
  · exact ⟨y, h, rfl, rfl, rfl, rfl⟩
  · exact ⟨x, hx, flipZ_length _ _, rfl, rfl, rfl⟩
theorem carryZ_len {l : List PkZ} {fs : List FtZ} {y : PkZ} (h : y ∈ carryZ l fs) : ∃ x ∈ l, y.zs.length = x.zs.length ∧ y.kind = x.kind ∧ y.id = x.id ∧ y.frm = x.frm := by
  induction fs generalizing l y with
  | nil => exact ⟨y, h, rfl, rfl, rfl, rfl⟩
  | cons f fs ih =>
    obtain ⟨x, hx, e1, e2, e3, e4⟩ := ih (l := strike l f) h
    obtain ⟨x', hx', e5, e6, e7, e8⟩ := strike_len hx
    exact ⟨x', hx', e1.trans e5, e2.trans e6, e3.trans e7, e4.trans e8⟩
theorem carryZ_length (l : List PkZ) (fs : List FtZ) : (carryZ l fs).length ≤ l.length + fs.length := by
  induction fs generalizing l with
  | nil => exact Nat.le_refl _
  | cons f fs ih =>
    have h1 := ih (strike l f)
    have h2 := strike_length l f
    have e : carryZ l (f :: fs) = carryZ (strike l f) fs := rfl
    rw [e, List.length_cons]
    omega
theorem carryZ_snoc (l : List PkZ) (fs : List FtZ) (k : Nat) (h : k < fs.length) : carryZ l (fs.take (k + 1)) = strike (carryZ l (fs.take k)) fs[k] := by
  unfold carryZ; rw [List.take_succ_eq_append_getElem h, List.foldl_append]; rfl

/-- the bytes of each packet lie in a block of its own -/
structure PkOwn (w : World) (base : Nat) (l : List Pk) : Prop where
  own : ∀ x ∈ l, w.ownsRow base 5 1 (.slice x.p.A x.p.zs.length x.p.cap) x.p.zs.length (x.p.zs.map (.int .u8))
  ne : l.Pairwise (fun x y => ∀ k, x.p.v.ownBlock = some k → y.p.v.ownBlock ≠ some k)
section
variable {w w' : World} {base : Nat} {l : List Pk} {S : Nat → Prop}
theorem PkOwn.nil : PkOwn w base [] := ⟨fun x hx => (by cases hx), List.Pairwise.nil⟩
theorem PkOwn.lt (h : PkOwn w base l) {x : Pk} (hx : x ∈ l) : ∀ k, x.p.v.ownBlock = some k → base ≤ k ∧ k < w.heap.size := fun k hk => (h.own x hx).lt k hk
theorem PkOwn.ch (h : PkOwn w base l) (k : Ch S w w') (hS : ∀ x ∈ l, ∀ i, x.p.v.ownBlock = some i → ¬ S i) : PkOwn w' base l :=
  ⟨fun x hx => own_ch (h.own x hx) k (hS x hx), h.ne⟩
theorem PkOwn.of (h : PkOwn w base l) (k : Grew w w') : PkOwn w' base l := h.ch (S := NoB) (Ch.of_below k) (fun _ _ _ _ h => h)
theorem PkOwn.mono {base' : Nat} (h : PkOwn w base l) (hb : base' ≤ base) : PkOwn w base' l := ⟨fun x hx => own_mono (h.own x hx) hb, h.ne⟩
theorem PkOwn.erase (h : PkOwn w base l) (i : Nat) : PkOwn w base (l.eraseIdx i) :=
  ⟨fun x hx => h.own x (List.mem_of_mem_eraseIdx hx), h.ne.sublist (List.eraseIdx_sublist _ _)⟩
/-- a packet with new bytes comes in -/
theorem PkOwn.ins (h : PkOwn w base l) {B : Nat} {x : Pk} (i : Nat) (hB : ∀ y ∈ l, ∀ k, y.p.v.ownBlock = some k → k < B) (hb : base ≤ B) (hx : w.ownsRow B 5 1 (.slice x.p.A x.p.zs.length x.p.cap) x.p.zs.length (x.p.zs.map (.int .u8))) : PkOwn w base (insP l i x) := by
  have hn : ∀ y ∈ l, ∀ k, x.p.v.ownBlock = some k → y.p.v.ownBlock ≠ some k := fun y hy k hk he => by
    have h1 := own_lt hx k hk
    have h2 := hB y hy k he
    omega
  refine ⟨fun y hy => ?_, ?_⟩
  · unfold insP at hy
    rcases List.mem_append.1 hy with hy | hy
    · exact h.own y (List.mem_of_mem_take hy)
    · rcases List.mem_cons.1 hy with rfl | hy
      · exact own_mono hx hb
      · exact h.own y (List.mem_of_mem_drop hy)
  · unfold insP
    have hl : l = l.take i ++ l.drop i := (List.take_append_drop i l).symm
    have h0 := h.ne
    rw [hl] at h0
    rw [List.pairwise_append] at h0 ⊢
    obtain ⟨h1, h2, h3⟩ := h0
    refine ⟨h1, List.pairwise_cons.2 ⟨fun y hy k hk => hn y (List.mem_of_mem_drop hy) k hk, h2⟩, fun a ha b hb k hk => ?_⟩
    rcases List.mem_cons.1 hb with rfl | hb
    · exact fun he => hn a (List.mem_of_mem_take ha) k he hk
    · exact h3 a ha b hb k hk
theorem PkOwn.snoc (h : PkOwn w base l) {B : Nat} {x : Pk} (hB : ∀ y ∈ l, ∀ k, y.p.v.ownBlock = some k → k < B) (hb : base ≤ B) (hx : w.ownsRow B 5 1 (.slice x.p.A x.p.zs.length x.p.cap) x.p.zs.length (x.p.zs.map (.int .u8))) : PkOwn w base (l ++ [x]) := by
  have := h.ins l.length hB hb hx
  unfold insP at this
  rwa [List.take_of_length_le (Nat.le_refl _), List.drop_of_length_le (Nat.le_refl _)] at this
theorem PkOwn.swap (h : PkOwn w base l) {a b : Nat} (ha : a < l.length) (hb : b < l.length) : PkOwn w base ((l.set a l[b]).set b l[a]) := by
  have hp : ((l.set a l[b]).set b l[a]).Perm l := List.set_set_perm ha hb
  exact ⟨fun x hx => h.own x (hp.mem_iff.1 hx), (hp.pairwise_iff (fun {x y} hxy k hk he => hxy k he hk)).2 h.ne⟩
/-- the packet at place a holds other bytes, in the same block -/
theorem PkOwn.set_ (h : PkOwn w base l) {a g : Nat} (ha : a < l.length) {x : Pk} (hA : l[a].p.v.ownBlock = some g) (hx : x.p.v = l[a].p.v) (k : Ch (At g) w w')
    (hn : w'.ownsRow base 5 1 (.slice x.p.A x.p.zs.length x.p.cap) x.p.zs.length (x.p.zs.map (.int .u8))) : PkOwn w' base (l.set a x) := by
  have hne : ∀ i (hi : i < l.length), i ≠ a → l[i].p.v.ownBlock ≠ some g := fun i hi hia => by
    have hp := List.pairwise_iff_getElem.1 h.ne
    rcases Nat.lt_or_gt_of_ne hia with h1 | h1
    · exact fun e => hp i a hi ha h1 g e hA
    · exact hp a i ha hi h1 g hA
  refine ⟨fun y hy => ?_, ?_⟩
  · obtain ⟨i, hi, rfl⟩ := List.getElem_of_mem hy
    rw [List.length_set] at hi
    rw [List.getElem_set]
    split
    · exact hn
    · rename_i hai
      exact own_ch (h.own _ (List.getElem_mem hi)) k (fun j hj e => hne i hi (fun e => hai e.symm) (by have e2 : j = g := e; subst e2; exact hj))
  · rw [List.pairwise_iff_getElem]
    intro i j hi hj hij q
    have hp := List.pairwise_iff_getElem.1 h.ne
    rw [List.length_set] at hi hj
    have e : ∀ m (hm : m < l.length), ((l.set a x)[m]'(by rw [List.length_set]; exact hm)).p.v = l[m].p.v := fun m hm => by
      rw [List.getElem_set]
      split
      · rename_i ham; subst ham; exact hx
      · rfl
    rw [e i hi, e j hj]
    exact hp i j hi hj hij q
end
/-- a slice of packets that a function owns whole -/
structure PksIs (w : World) (base : Nat) (A : Option Addr) (c : Nat) (l : List Pk) : Prop where
  row : w.ownsRow base 55 5 (.slice A l.length c) l.length (pksC l)
  own : PkOwn w base l
theorem PksIs.of {w w' : World} {base c : Nat} {A : Option Addr} {l : List Pk} (h : PksIs w base A c l) (k : Grew w w') : PksIs w' base A c l := ⟨own_below h.row k, h.own.of k⟩
/-- a block of packets is none of bytes -/
theorem PksIs.apart {w : World} {base c : Nat} {A : Option Addr} {l : List Pk} (h : PksIs w base A c l) {x : Pk} (hx : x ∈ l) {k : Nat} (hk : x.p.v.ownBlock = some k) : (Value.slice A l.length c).ownBlock ≠ some k :=
  fun he => own_own_ne (h.own.own x hx) h.row (by decide) k hk he
theorem pksC_set (l : List Pk) (a : Nat) (x : Pk) (h : a < l.length) : pksC (l.set a x) = (pksC l).take (a * 5) ++ pkC x ++ (pksC l).drop (a * 5 + 5) := by
  rw [show a * 5 + 5 = (a + 1) * 5 by omega, pksC_take, pksC_drop, List.set_eq_take_append_cons_drop, if_pos h, pksC_append, show x :: l.drop (a + 1) = [x] ++ l.drop (a + 1) from rfl, pksC_append, pksC_one, List.append_assoc]
/-- several cells are written -/
theorem own_puts {base : Nat} {e : TypeId} {size g n cap : Nat} : ∀ (vs : List Value) (o : Nat) {w : World} {xs : List Value}, w.ownsRow base e size (.slice (some ⟨g, 0, none⟩) n cap) n xs → o + vs.length ≤ xs.length →
    (w.setCells g o vs).ownsRow base e size (.slice (some ⟨g, 0, none⟩) n cap) n (xs.take o ++ vs ++ xs.drop (o + vs.length)) ∧ Ch (At g) w (w.setCells g o vs)
  | [], o, w, xs, h, _ => by
    simp only [World.setCells, List.append_nil, List.length_nil, Nat.add_zero, List.take_append_drop]
    exact ⟨h, Ch.refl _ _⟩
  | v :: r, o, w, xs, h, hl => by
    simp only [List.length_cons] at hl
    obtain ⟨h1, h2⟩ := h.stored o v
    obtain ⟨h3, h4⟩ := own_puts r (o + 1) h1 (by rw [List.length_set]; omega)
    have e := list_seg_step xs o v r (by omega)
    rw [e] at h3
    exact ⟨h3, (Ch.of_grown h2).trans h4⟩
end
end

/- Dist37:
  transfer.disturb.
-/
section
section
set_option linter.unusedVariables false
set_option linter.unusedSimpArgs false
set_option linter.unnecessarySimpa false
open Go.RowKit
attribute [local go_sem ↓] Go.wp_at_zero Go.wp_at_succ

/-- packets that a function returns, in memory of its own -/
def CarRes (base : Nat) (zs : List PkZ) (w : World) (e : Ending) (w' : World) : Prop := ∃ A c ql, e = .returned (.slice A (List.length (α := Pk) ql) c) ∧ ql.map Pk.z = zs ∧ PksIs w' base A c ql ∧ Below base w w'
theorem strike_lose {l : List PkZ} {i : Nat} {b : Int} (h : i < l.length) : strike l ⟨1, i, b⟩ = l.eraseIdx i := by
  unfold strike
  rw [dif_pos ⟨by simp only; omega, by simpa using h⟩]
  simp

set_option maxRecDepth 100000 in
set_option maxHeartbeats 1000000 in
theorem disturb_lose (g m c i base : Nat) (l : List Pk) (b : Int) (w : World) (h : PksIs w base (some ⟨g, 0, none⟩) c l) (hm : l.length = m + 1) (hi : i ≤ m) (hn : m ≤ 16777215) (hbase : base ≤ w.heap.size) :
    Calls Try.prog 72 #[.slice (some ⟨g, 0, none⟩) (m + 1 : Nat) c, .agg #[.int .i64 1, .int .i64 i, .int .i64 b]] w (CarRes base (strike (l.map Pk.z) ⟨1, i, b⟩) w) := by
  obtain ⟨hown, hpo⟩ := h
  rw [hm] at hown
  have ga := grew_alloc w (.cells #[.int .i64 1, .int .i64 i, .int .i64 b] 93)
  have kF := Blk.new w 93 #[.int .i64 1, .int .i64 i, .int .i64 b]
  have c0 := (kF.cell 0).trans (show _ = some (.int .i64 1) from rfl)
  have c1 := (kF.cell 1).trans (show _ = some (.int .i64 i) from rfl)
  have hw1 : IntKind.i64.wrap ((i : Int) + 1) = (i : Int) + 1 := Go.IntWalk.i64_in _ (by omega)
  have HD := Lib.hid (delete_pk g m c base i l _ (own_below hown ga) hi)
  have HP := Lib.hid (hpo.of ga)
  go_enter Try.func72, Try.ntmps72
  go_wp2_with fail
  refine HD.out.mono ?_
  rintro e w2 ⟨rfl, hown2, hc2⟩
  have hgl : g < w.heap.size := (hown.lt g rfl).2
  have hpo2 := (HP.out.ch hc2 (fun x hx i hi e => by
    have e2 : i = g := e
    subst e2
    exact PksIs.apart (A := some ⟨i, 0, none⟩) (c := c) ⟨by rw [hm]; exact hown, hpo⟩ hx hi rfl)).erase i
  have hb : Below base w w2 := Below.trans (B := base) (ga.mono hbase) (hc2.below (by simp; omega) (fun k hk => by have e2 : k = g := hk; subst e2; exact own_lt hown _ rfl))
  have he : (l.eraseIdx i).length = m := by rw [List.length_eraseIdx]; split <;> omega
  have HE := Lib.hid he
  clear hown hpo ga kF c0 c1 HD hc2
  go_wp2_with fail
  go_ret
  refine ⟨some ⟨g, 0, none⟩, c, l.eraseIdx i, by rw [HE.out]; rfl, ?_, ⟨by rw [HE.out]; exact hown2, hpo2⟩, hb⟩
  rw [strike_lose (by rw [List.length_map]; omega), List.eraseIdx_eq_take_drop_succ, List.eraseIdx_eq_take_drop_succ, List.map_append, List.map_take, List.map_drop]

theorem strike_none {l : List PkZ} {k i b : Int} (h1 : k ≠ 1) (h2 : k ≠ 2) (h3 : k ≠ 3) (h4 : k ≠ 4) : strike l ⟨k, i, b⟩ = l := by
  unfold strike
  split
  · simp [h1, h2, h3, h4]
  · rfl
set_option maxRecDepth 100000 in
set_option maxHeartbeats 1000000 in
theorem disturb_none (A : Option Addr) (c base : Nat) (k i b : Int) (l : List Pk) (w : World) (h : PksIs w base A c l) (hbase : base ≤ w.heap.size) (h1 : k ≠ 1) (h2 : k ≠ 2) (h3 : k ≠ 3) (h4 : k ≠ 4) :
    Calls Try.prog 72 #[.slice A l.length c, .agg #[.int .i64 k, .int .i64 i, .int .i64 b]] w (CarRes base (strike (l.map Pk.z) ⟨k, i, b⟩) w) := by
  have ga := grew_alloc w (.cells #[.int .i64 k, .int .i64 i, .int .i64 b] 93)
  have kF := Blk.new w 93 #[.int .i64 k, .int .i64 i, .int .i64 b]
  have c0 := (kF.cell 0).trans (show _ = some (.int .i64 k) from rfl)
  have HH := Lib.hid (h.of ga)
  go_enter Try.func72, Try.ntmps72
  go_wp2_with fail
  go_ret
  refine ⟨A, c, l, rfl, ?_, HH.out, ga.mono hbase⟩
  rw [strike_none h1 h2 h3 h4]

theorem pks_lit {w : World} {B g : Nat} {l : List Pk} (hr : Row w B (some ⟨g, 0, none⟩) (pksC l)) {k : Nat} (h : k < l.length) :
    w.cell? ⟨g, k * 5, none⟩ = some (.int .i64 l[k].kind) ∧ w.cell? ⟨g, k * 5 + 1, none⟩ = some (.int .u64 l[k].id.1) ∧ w.cell? ⟨g, k * 5 + 2, none⟩ = some (.int .i64 l[k].id.2) ∧ w.cell? ⟨g, k * 5 + 3, none⟩ = some (.int .i64 l[k].frm) ∧ w.cell? ⟨g, k * 5 + 4, none⟩ = some (.slice l[k].p.A l[k].p.zs.length l[k].p.cap) := by
  obtain ⟨ad, hA, _, d⟩ := pks_at hr h
  obtain rfl : (⟨g, 0, none⟩ : Addr) = ad := by injection hA
  simp only [Addr.add_lit, Nat.zero_add] at d
  exact d
theorem strike_repeat {l : List PkZ} {i : Nat} {b : Int} (h : i < l.length) : strike l ⟨2, i, b⟩ = l.take (i + 1) ++ l[i] :: l.drop (i + 1) := by
  unfold strike
  rw [dif_pos ⟨by simp only; omega, by simpa using h⟩]
  simp
set_option maxRecDepth 100000 in
set_option maxHeartbeats 1000000 in
theorem disturb_repeat (g c i base : Nat) (l : List Pk) (b : Int) (w : World) (h : PksIs w base (some ⟨g, 0, none⟩) c l) (hi : i < l.length) (hn : l.length ≤ 16777215) (hz : ∀ x ∈ l, x.p.zs.length ≤ 70368744177664) (hbase : base ≤ w.heap.size) :
    Calls Try.prog 72 #[.slice (some ⟨g, 0, none⟩) l.length c, .agg #[.int .i64 2, .int .i64 i, .int .i64 b]] w (CarRes base (strike (l.map Pk.z) ⟨2, i, b⟩) w) := by
  have ga := grew_alloc w (.cells #[.int .i64 2, .int .i64 i, .int .i64 b] 93)
  have kF := Blk.new w 93 #[.int .i64 2, .int .i64 i, .int .i64 b]
  have HI := Lib.hid (h.of ga)
  have hgl : g < w.heap.size := (h.row.lt g rfl).2
  have hs0 := ga.size
  have HG0 := Lib.hid (ga.mono hbase)
  have hw1 : IntKind.i64.wrap ((i : Int) + 1) = (i : Int) + 1 := Go.IntWalk.i64_in _ (by omega)
  have hiI : (i : Int) < (l.length : Int) := by omega
  have hS := Lib.hid (strike_repeat (l := l.map Pk.z) (i := i) (b := b) (by rw [List.length_map]; exact hi))
  clear h ga
  go_enter Try.func72, Try.ntmps72
  have c0 := (kF.cell 0).trans (show _ = some (.int .i64 2) from rfl)
  have c1 := (kF.cell 1).trans (show _ = some (.int .i64 i) from rfl)
  go_wp2_with fail
  generalize w.alloc (.cells #[.int .i64 2, .int .i64 i, .int .i64 b] 93) = w1 at *
  obtain ⟨d0, d1, d2, d3, d4⟩ := pks_lit (own_row HI.out.row) hi
  have hxm := List.getElem_mem hi
  have hzx := hz _ hxm
  have hrx := own_row (HI.out.own.own _ hxm)
  have HX := Lib.hid (rfl : l[i] = l[i])
  generalize hx : l[i] = x at *
  obtain ⟨k, ⟨i1, i2⟩, f, ⟨bA, bc, zs⟩⟩ := x
  simp only at d0 d1 d2 d3 d4 hzx hrx
  refine wp_region_g 11 (by kernel_rfl) ?_
  refine AllC.head 0 9 (fuel := 4) (by first | exact fun h k => Grew.trans h k | exact fun h k => cls_grew h k) (grew_drew _) (by rfl) (by kernel_rfl) ?_
  simp only [List.take_succ_cons, List.take_zero, List.drop_succ_cons, List.drop_zero]
  repeat (first
    | (refine HeadC.val (by rfl) ?_
       apply Exists.intro
       refine ⟨fun w' hw' => ?_, ?_⟩
       · (have hf_0 := cell_up hw' c1; have hf_1 := cell_up hw' d0; have hf_2 := cell_up hw' d1; have hf_3 := cell_up hw' d2; have hf_4 := cell_up hw' d3; have hf_5 := cell_up hw' d4; (go_simp) <;> (try go_ints) <;> with_reducible rfl)
       try simp only [Act.put, List.setIfInBounds_toArray, List.set_cons_zero, List.set_cons_succ])
    | (refine HeadC.shut (by rfl) ?_
       try simp only [Act.put, List.setIfInBounds_toArray, List.set_cons_zero, List.set_cons_succ]))
  refine HeadC.nil ?_
  refine AllC.one 9 (by kernel_rfl) rfl ?_
  intro wg hg K hK
  go_simp
  have hg1 : Grew w1 wg := (grew_drew w1).trans hg
  refine (copied_any ⟨k, (i1, i2), f, ⟨bA, bc, zs⟩⟩ wg (hrx.below hg1 (Nat.le_refl _) |>.more hg1.size) hzx).mono ?_
  rintro e w3 ⟨A', c', rfl, hown3, hg3⟩
  have hgA := hg1.trans hg3
  have hs1 := hg1.size
  refine hK.out _ _ hgA ?_
  clear hK K hg hg1 hg3
  generalize wg.heap.size = B1 at *
  clear wg
  try simp only [Act.put, List.setIfInBounds_toArray, List.set_cons_zero, List.set_cons_succ]
  refine AllC.one 10 (by kernel_rfl) rfl ?_
  intro wg hg K hK
  go_simp
  have gV := grew_alloc wg (.cells #[.int .i64 k, .int .u64 i1, .int .i64 i2, .int .i64 f, .slice A' zs.length c'] 55)
  have kV := Blk.new wg 55 #[.int .i64 k, .int .u64 i1, .int .i64 i2, .int .i64 f, .slice A' zs.length c']
  have hgB := Grew.trans hgA (Grew.trans hg gV)
  replace hown3 := own_below hown3 (hg.trans gV)
  have hs2 := hg.size
  have hs3 := hgA.size
  refine hK.out _ _ hgB ?_
  clear hK K hg gV hgA
  generalize wg.alloc (.cells #[.int .i64 k, .int .u64 i1, .int .i64 i2, .int .i64 f, .slice A' zs.length c'] 55) = w4 at *
  generalize wg.heap.size = vb at *
  clear wg
  try simp only [Act.put, List.setIfInBounds_toArray, List.set_cons_zero, List.set_cons_succ]
  refine AllC.tail 11 (by rfl) (by kernel_rfl) ?_
  intro wt hwt
  simp only [List.drop_succ_cons, List.drop_zero]
  have hgT := Grew.trans hgB hwt
  have hIt := HI.out.of hgT
  have kVt := kV.of hwt
  have hownt := own_below hown3 hwt
  have hne : vb ≠ g := by omega
  have hbT : Below base w wt := Below.trans (B := base) HG0.out (hgT.mono (by omega))
  have HC := insert_pk g l.length c base (i + 1) vb l ⟨k, (i1, i2), f, ⟨A', c', zs⟩⟩ wt hIt.row rfl kVt hne (by omega) (by omega) (by have := hbT.size; omega)
  have HC' := Lib.hid HC
  have HPO := Lib.hid (hIt.own.of (Grew.refl _))
  have hlo : ∀ y ∈ l, ∀ q, y.p.v.ownBlock = some q → q < B1 := fun y hy q hq => by have := (HI.out.own.lt hy q hq).2; omega
  have HN : Hid (PkOwn wt base (insP l (i + 1) ⟨k, (i1, i2), f, ⟨A', c', zs⟩⟩)) := Lib.hid (hIt.own.ins (x := ⟨k, (i1, i2), f, ⟨A', c', zs⟩⟩) (i + 1) hlo (by omega) hownt)
  have hgo : ∀ q, (Value.slice A' zs.length c').ownBlock = some q → q ≠ g := fun q hq h => by have := own_lt hownt q hq; omega
  have HNg : Hid (∀ x ∈ insP l (i + 1) ⟨k, (i1, i2), f, ⟨A', c', zs⟩⟩, ∀ q, x.p.v.ownBlock = some q → ¬ At g q) := Lib.hid (fun x hx q hq h => by
    have h2 : q = g := h
    subst h2
    unfold insP at hx
    rcases List.mem_append.1 hx with hx | hx
    · exact hIt.apart (List.mem_of_mem_take hx) hq rfl
    · rcases List.mem_cons.1 hx with rfl | hx
      · exact hgo q hq rfl
      · exact hIt.apart (List.mem_of_mem_drop hx) hq rfl)
  have HBT := Lib.hid hbT
  have hgb : base ≤ g := own_lt hIt.row g rfl
  clear HC hIt kV kVt hownt hown3 hgT hgB hwt hlo hgo hbT d0 d1 d2 d3 d4 c0 c1 kF
  go_wp2_with fail
  refine HC'.out.mono ?_
  rintro e w5 ⟨A5, c5, rfl, hown5, hc5⟩
  have hpo5 := HN.out.ch hc5 HNg.out
  have hb5 : Below base w w5 := Below.trans (B := base) HBT.out (hc5.below (by have := HBT.out.size; omega) (fun q hq => by have h2 : q = g := hq; omega))
  have HO5 := Lib.hid hown5
  clear hown5 hc5
  go_wp2_with fail
  go_ret
  refine ⟨A5, c5, insP l (i + 1) ⟨k, (i1, i2), f, ⟨A', c', zs⟩⟩, by rw [insP_length]; rfl, ?_, ⟨by rw [insP_length]; exact HO5.out, hpo5⟩, hb5⟩
  rw [hS.out]
  unfold insP
  rw [List.map_append, List.map_cons, List.map_take, List.map_drop, List.getElem_map, hx]
  rfl

theorem strike_flip {l : List PkZ} {i n : Nat} (h : i < l.length) (hn : n / 8 < l[i].zs.length) : strike l ⟨4, i, n⟩ = l.set i (l[i].flip n) := by
  unfold strike
  rw [dif_pos ⟨by simp only; omega, by simpa using h⟩]
  have h2 : ((n : Int) / 8) < (l[i].zs.length : Int) := by omega
  simp [h2]
theorem strike_flip_no {l : List PkZ} {i : Nat} {b : Int} (h : i < l.length) (hn : ¬ (0 ≤ b ∧ b / 8 < (l[i].zs.length : Int))) : strike l ⟨4, i, b⟩ = l := by
  unfold strike
  rw [dif_pos ⟨by simp only; omega, by simpa using h⟩]
  simp only [Int.toNat_natCast]
  rw [if_neg (by decide), if_neg (by decide), if_neg (by decide), if_pos trivial, if_neg hn]
set_option maxRecDepth 100000 in
set_option maxHeartbeats 1000000 in
theorem disturb_flip_no (g c i base : Nat) (l : List Pk) (b : Int) (w : World) (h : PksIs w base (some ⟨g, 0, none⟩) c l) (hi : i < l.length) (hn : ¬ (0 ≤ b ∧ b / 8 < (l[i].p.zs.length : Int))) (hbb : b ≤ 9223372036854775807) (hlen : l.length ≤ 16777215) (hbase : base ≤ w.heap.size) :
    Calls Try.prog 72 #[.slice (some ⟨g, 0, none⟩) l.length c, .agg #[.int .i64 4, .int .i64 i, .int .i64 b]] w (CarRes base (strike (l.map Pk.z) ⟨4, i, b⟩) w) := by
  have ga := grew_alloc w (.cells #[.int .i64 4, .int .i64 i, .int .i64 b] 93)
  have kF := Blk.new w 93 #[.int .i64 4, .int .i64 i, .int .i64 b]
  have hI := h.of ga
  have HI := Lib.hid hI
  have c0 := (kF.cell 0).trans (show _ = some (.int .i64 4) from rfl)
  have c1 := (kF.cell 1).trans (show _ = some (.int .i64 i) from rfl)
  have c2 := (kF.cell 2).trans (show _ = some (.int .i64 b) from rfl)
  have hiI : (i : Int) < (l.length : Int) := by omega
  obtain ⟨d0, d1, d2, d3, d4⟩ := pks_lit (own_row hI.row) hi
  have hS := Lib.hid (strike_flip_no (l := l.map Pk.z) (i := i) (b := b) (by rw [List.length_map]; exact hi) (by rw [List.getElem_map]; exact hn))
  have HB := Lib.hid (ga.mono hbase)
  clear h ga hI kF d0 d1 d2 d3
  generalize l[i].p.zs.length = zl at *
  generalize l[i].p.A = pA at *
  generalize l[i].p.cap = pc at *
  by_cases h0 : 0 ≤ b
  · obtain ⟨n, rfl⟩ : ∃ n : Nat, b = n := ⟨b.toNat, by omega⟩
    have hn2 : ¬ ((n : Int) / 8 < (zl : Int)) := fun h => hn ⟨h0, h⟩
    have hn3 : decide ((n : Int) / 8 < (zl : Int)) = false := by simp [hn2]
    have hwr : wrap64 ((n : Int) / 8) = (n : Int) / 8 := Go.IntWalk.wrap64_in _ (by omega)
    clear hn
    go_enter Try.func72, Try.ntmps72
    go_wp2_with fail
    go_quiet (fail)
    go_wp2
    go_ret
    exact ⟨some ⟨g, 0, none⟩, c, l, rfl, hS.out.symm, HI.out.of (grew_drawn ⟨_, rfl⟩), Below.trans (B := base) HB.out ((grew_drawn ⟨_, rfl⟩).mono (Nat.le_trans hbase HB.out.size))⟩
  · have h1 : decide (0 ≤ b) = false := by simp [h0]
    clear hn d4
    go_enter Try.func72, Try.ntmps72
    go_wp2_with fail
    go_quiet (fail)
    go_wp2
    go_ret
    exact ⟨some ⟨g, 0, none⟩, c, l, rfl, hS.out.symm, HI.out.of (grew_drawn ⟨_, rfl⟩), Below.trans (B := base) HB.out ((grew_drawn ⟨_, rfl⟩).mono (Nat.le_trans hbase HB.out.size))⟩

set_option maxRecDepth 100000 in
set_option maxHeartbeats 200000 in
theorem disturb_flip (g c i base n : Nat) (l : List Pk) (w : World) (h : PksIs w base (some ⟨g, 0, none⟩) c l) (hi : i < l.length) (hn : n / 8 < l[i].p.zs.length) (hz : l[i].p.zs.length ≤ 70368744177664) (hlen : l.length ≤ 16777215) (hbase : base ≤ w.heap.size) :
    Calls Try.prog 72 #[.slice (some ⟨g, 0, none⟩) l.length c, .agg #[.int .i64 4, .int .i64 i, .int .i64 n]] w (CarRes base (strike (l.map Pk.z) ⟨4, i, n⟩) w) := by
  have ga := grew_alloc w (.cells #[.int .i64 4, .int .i64 i, .int .i64 n] 93)
  have kF := Blk.new w 93 #[.int .i64 4, .int .i64 i, .int .i64 n]
  have hI := h.of ga
  have HI := Lib.hid hI
  have c0 := (kF.cell 0).trans (show _ = some (.int .i64 4) from rfl)
  have c1 := (kF.cell 1).trans (show _ = some (.int .i64 i) from rfl)
  have c2 := (kF.cell 2).trans (show _ = some (.int .i64 n) from rfl)
  have hiI : (i : Int) < (l.length : Int) := by omega
  obtain ⟨d0, d1, d2, d3, d4⟩ := pks_lit (own_row hI.row) hi
  have hS := Lib.hid (strike_flip (l := l.map Pk.z) (i := i) (n := n) (by rw [List.length_map]; exact hi) (by rw [List.getElem_map]; exact hn))
  have HB := Lib.hid (ga.mono hbase)
  have hxm := List.getElem_mem hi
  have hox := hI.own.own _ hxm
  clear h ga hI kF d0 d1 d2 d3
  generalize hx : l[i] = x at *
  obtain ⟨k, id, f, ⟨bA, bc, zs⟩⟩ := x
  simp only at hn hz d4 hox
  obtain ⟨gb, rfl, hgb1, hgb2⟩ := own_some hox (by omega)
  obtain ⟨q, hq⟩ : ∃ q, q = n / 8 := ⟨_, rfl⟩
  obtain ⟨r, hr⟩ : ∃ r, r = n % 8 := ⟨_, rfl⟩
  have hqI : (n : Int) / 8 = (q : Int) := by omega
  have hrI : (n : Int) % 8 = (r : Int) := by omega
  have hr8 : r < 8 := by omega
  rw [← hq] at hn
  have HQ := Lib.hid hq
  have HR := Lib.hid hr
  have HRI := Lib.hid hrI
  clear hq hr hrI
  have hzc : (w.alloc (.cells #[.int .i64 4, .int .i64 i, .int .i64 n] 93)).cell? ⟨gb, q, none⟩ = some (.int .u8 (zs.getD q 0)) := by
    rw [hox.cellAt _ (by omega), List.getElem?_map, List.getD_eq_getElem?_getD, List.getElem?_eq_getElem hn]; rfl
  have hn2 : (q : Int) < (zs.length : Int) := by omega
  have hn3 : decide ((q : Int) < (zs.length : Int)) = true := by simp [hn]
  have h0 : (0 : Int) ≤ (n : Int) := by omega
  have hwr : wrap64 (q : Int) = (q : Int) := Go.IntWalk.wrap64_in _ (by omega)
  have hwq : wrap64 (r : Int) = (r : Int) := Go.IntWalk.wrap64_in _ (by omega)
  have H8 := Lib.hid hr8
  clear hr8 hwq
  generalize hzq : zs.getD q 0 = zq at *
  have HZQ := Lib.hid hzq
  clear hzq
  go_enter Try.func72, Try.ntmps72
  go_wp2_with fail
  generalize w.alloc (.cells #[.int .i64 4, .int .i64 i, .int .i64 n] 93) = w1 at *
  refine wp_region_g 15 (by kernel_rfl) ?_
  refine AllC.head 0 15 (fuel := 1) (by first | exact fun h k => Grew.trans h k | exact fun h k => cls_grew h k) (grew_drew _) (by rfl) (by kernel_rfl) ?_
  simp only [List.take_succ_cons, List.take_zero, List.drop_succ_cons, List.drop_zero]
  repeat (first
    | (refine HeadC.val (by rfl) ?_
       apply Exists.intro
       refine ⟨fun w' hw' => ?_, ?_⟩
       · (have hf_0 := cell_up hw' c1; have hf_1 := cell_up hw' c2; have hf_2 := cell_up hw' d4; (go_simp) <;> (try go_ints) <;> with_reducible rfl)
       try simp only [Act.put, List.setIfInBounds_toArray, List.set_cons_zero, List.set_cons_succ])
    | (refine HeadC.shut (by rfl) ?_
       try simp only [Act.put, List.setIfInBounds_toArray, List.set_cons_zero, List.set_cons_succ]))
  refine HeadC.nil ?_
  refine AllC.tail 15 (by rfl) (by kernel_rfl) ?_
  intro wt hwt
  simp only [List.drop_succ_cons, List.drop_zero]
  have hgt : Grew w1 wt := (grew_drew _).trans hwt
  replace c1 := cell_up hgt c1
  replace c2 := cell_up hgt c2
  replace d4 := cell_up hgt d4
  replace hzc := cell_up hgt hzc
  have hIt := HI.out.of hgt
  replace hox := own_below hox hgt
  have hBt : Below base w wt := Below.trans (B := base) HB.out (hgt.mono (Nat.le_trans hbase HB.out.size))
  clear hwt hgt c0
  go_wp2_with fail
  have hrI := HRI.out
  have hnq : (0 : Int) ≤ (r : Int) := by omega
  refine wp_region_g 16 (by kernel_rfl) ?_
  refine AllC.head 0 16 (fuel := 2) (by first | exact fun h k => Grew.trans h k | exact fun h k => cls_grew h k) (grew_drew _) (by rfl) (by kernel_rfl) ?_
  simp only [List.take_succ_cons, List.take_zero, List.drop_succ_cons, List.drop_zero]
  repeat (first
    | (refine HeadC.val (by rfl) ?_
       apply Exists.intro
       refine ⟨fun w' hw' => ?_, ?_⟩
       · (have hf_0 := cell_up hw' c1; have hf_1 := cell_up hw' c2; have hf_2 := cell_up hw' d4; have hf_3 := cell_up hw' hzc; (go_simp) <;> (try go_ints) <;> with_reducible rfl)
       try simp only [Act.put, List.setIfInBounds_toArray, List.set_cons_zero, List.set_cons_succ])
    | (refine HeadC.shut (by rfl) ?_
       try simp only [Act.put, List.setIfInBounds_toArray, List.set_cons_zero, List.set_cons_succ]))
  refine HeadC.nil ?_
  refine AllC.tail 16 (by rfl) (by kernel_rfl) ?_
  intro wt hwt
  simp only [List.drop_succ_cons, List.drop_zero]
  have hgt : Grew _ wt := (grew_drew _).trans hwt
  have hIt2 := hIt.of hgt
  replace hox := own_below hox hgt
  replace hzc := cell_up hgt hzc
  have hBt2 : Below base w wt := Below.trans (B := base) hBt (hgt.mono (Nat.le_trans hbase hBt.size))
  have hfz := hox.frozenAt q
  obtain ⟨hst, hstg⟩ := hox.stored q (.int .u8 (bits .xor .u8 zq ((2 : Int) ^ r % 256)))
  have hcS : Ch (At gb) wt (wt.setCell ⟨gb, q, none⟩ (.int .u8 (bits .xor .u8 zq ((2 : Int) ^ r % 256)))) := Ch.of_grown hstg
  have hFL : flipZ zs n = zs.set q (bits .xor .u8 zq ((2 : Int) ^ r % 256)) := by
    unfold flipZ flipV
    rw [← HQ.out, ← HR.out, HZQ.out]
  have hnew : (wt.setCell ⟨gb, q, none⟩ (.int .u8 (bits .xor .u8 zq ((2 : Int) ^ r % 256)))).ownsRow base 5 1 (.slice (some ⟨gb, 0, none⟩) (flipZ zs n).length bc) (flipZ zs n).length ((flipZ zs n).map (.int .u8)) := by
    rw [flipZ_length, hFL, List.map_set]
    exact hst
  have hpo := hIt2.own.set_ (a := i) (g := gb) hi (x := ⟨k, id, f, ⟨some ⟨gb, 0, none⟩, bc, flipZ zs n⟩⟩) (by rw [hx]; rfl) (by rw [hx]; simp only [Part.v, flipZ_length]) hcS hnew
  have hgne : (Value.slice (some ⟨g, 0, none⟩) l.length c).ownBlock ≠ some gb := hIt2.apart hxm (k := gb) rfl
  have hrow := own_ch hIt2.row hcS (fun j hj h => hgne (by rw [hj]; exact congrArg some h))
  have hgbb : base ≤ gb := own_lt hox gb rfl
  have hbE : Below base w (wt.setCell ⟨gb, q, none⟩ (.int .u8 (bits .xor .u8 zq ((2 : Int) ^ r % 256)))) := Below.trans (B := base) hBt2 (hcS.below (Nat.le_trans hbase hBt2.size) (fun j h => by have h2 : j = gb := h; omega))
  have HPO := Lib.hid hpo
  have HROW := Lib.hid hrow
  have HBE := Lib.hid hbE
  clear hst hstg hcS hnew hpo hrow hbE hFL hgne hIt hIt2 hBt hBt2 hox
  go_wp2_with fail
  go_ret
  refine ⟨some ⟨g, 0, none⟩, c, l.set i ⟨k, id, f, ⟨some ⟨gb, 0, none⟩, bc, flipZ zs n⟩⟩, by rw [List.length_set]; rfl, ?_, ⟨?_, HPO.out⟩, HBE.out⟩
  · rw [hS.out, List.map_set, List.getElem_map, hx]
    rfl
  · rw [List.length_set]
    have e : pksC (l.set i ⟨k, id, f, ⟨some ⟨gb, 0, none⟩, bc, flipZ zs n⟩⟩) = pksC l := by
      have hs : l = l.set i l[i] := (List.set_getElem_self hi).symm
      conv => rhs; rw [hs]
      rw [pksC_set _ _ _ hi, pksC_set _ _ _ hi, hx]
      simp only [pkC, Part.v, flipZ_length]
    rw [e]
    exact HROW.out

theorem strike_swap {l : List PkZ} {i o : Nat} {b : Int} (h : i < l.length) (ho : o < l.length) (hb : (i : Int) + b = o) : strike l ⟨3, i, b⟩ = (l.set i l[o]).set o l[i] := by
  unfold strike
  rw [dif_pos ⟨by simp only; omega, by simpa using h⟩]
  simp only [Int.toNat_natCast, hb]
  rw [if_neg (by decide), if_neg (by decide), if_pos trivial, dif_pos ⟨by omega, by omega⟩]
theorem strike_swap_no {l : List PkZ} {i : Nat} {b : Int} (h : i < l.length) (hb : ¬ (0 ≤ (i : Int) + b ∧ (i : Int) + b < (l.length : Int))) : strike l ⟨3, i, b⟩ = l := by
  unfold strike
  rw [dif_pos ⟨by simp only; omega, by simpa using h⟩]
  simp only [Int.toNat_natCast]
  rw [if_neg (by decide), if_neg (by decide), if_pos trivial, dif_neg hb]
set_option maxRecDepth 100000 in
set_option maxHeartbeats 1000000 in
theorem disturb_swap_no (g c i base : Nat) (l : List Pk) (b : Int) (w : World) (h : PksIs w base (some ⟨g, 0, none⟩) c l) (hi : i < l.length) (hn : ¬ (0 ≤ (i : Int) + b ∧ (i : Int) + b < (l.length : Int))) (hb1 : -9223372036854775808 ≤ b) (hb2 : b ≤ 9223372036854775807) (hlen : l.length ≤ 16777215) (hbase : base ≤ w.heap.size) :
    Calls Try.prog 72 #[.slice (some ⟨g, 0, none⟩) l.length c, .agg #[.int .i64 3, .int .i64 i, .int .i64 b]] w (CarRes base (strike (l.map Pk.z) ⟨3, i, b⟩) w) := by
  have ga := grew_alloc w (.cells #[.int .i64 3, .int .i64 i, .int .i64 b] 93)
  have kF := Blk.new w 93 #[.int .i64 3, .int .i64 i, .int .i64 b]
  have HI := Lib.hid (h.of ga)
  have c0 := (kF.cell 0).trans (show _ = some (.int .i64 3) from rfl)
  have c1 := (kF.cell 1).trans (show _ = some (.int .i64 i) from rfl)
  have c2 := (kF.cell 2).trans (show _ = some (.int .i64 b) from rfl)
  have hS := Lib.hid (strike_swap_no (l := l.map Pk.z) (i := i) (b := b) (by rw [List.length_map]; exact hi) (by rw [List.length_map]; exact hn))
  have HB := Lib.hid (ga.mono hbase)
  obtain ⟨v, hv, hv2⟩ : ∃ v, wrap64 ((i : Int) + b) = v ∧ ¬ (0 ≤ v ∧ v < (l.length : Int)) := by
    refine ⟨_, rfl, ?_⟩
    by_cases hr : (i : Int) + b ≤ 9223372036854775807
    · rw [Go.IntWalk.wrap64_in _ (by omega)]; exact hn
    · have : wrap64 ((i : Int) + b) = (i : Int) + b - 18446744073709551616 := by unfold wrap64; omega
      omega
  clear h ga kF hn hb1 hb2
  by_cases h0 : 0 ≤ v
  · have h1 : (l.length : Int) ≤ v := by omega
    have h2 : decide (v < (l.length : Int)) = false := by simp; omega
    clear hv2
    go_enter Try.func72, Try.ntmps72
    go_wp2_with fail
    go_ret
    exact ⟨some ⟨g, 0, none⟩, c, l, rfl, hS.out.symm, HI.out, HB.out⟩
  · have h1 : v < 0 := by omega
    have h2 : decide (0 ≤ v) = false := by simp; omega
    clear hv2
    go_enter Try.func72, Try.ntmps72
    go_wp2_with fail
    go_ret
    exact ⟨some ⟨g, 0, none⟩, c, l, rfl, hS.out.symm, HI.out, HB.out⟩
set_option maxRecDepth 100000 in
set_option maxHeartbeats 400000 in
theorem disturb_swap (g c i o base : Nat) (l : List Pk) (b : Int) (w : World) (h : PksIs w base (some ⟨g, 0, none⟩) c l) (hi : i < l.length) (ho : o < l.length) (hb : (i : Int) + b = o) (hlen : l.length ≤ 16777215) (hbase : base ≤ w.heap.size) :
    Calls Try.prog 72 #[.slice (some ⟨g, 0, none⟩) l.length c, .agg #[.int .i64 3, .int .i64 i, .int .i64 b]] w (CarRes base (strike (l.map Pk.z) ⟨3, i, b⟩) w) := by
  have ga := grew_alloc w (.cells #[.int .i64 3, .int .i64 i, .int .i64 b] 93)
  have kF := Blk.new w 93 #[.int .i64 3, .int .i64 i, .int .i64 b]
  have hI := h.of ga
  have HI := Lib.hid hI
  have c0 := (kF.cell 0).trans (show _ = some (.int .i64 3) from rfl)
  have c1 := (kF.cell 1).trans (show _ = some (.int .i64 i) from rfl)
  have c2 := (kF.cell 2).trans (show _ = some (.int .i64 b) from rfl)
  have hgl : g < w.heap.size := (h.row.lt g rfl).2
  have hng : ¬ At g w.heap.size := fun h => by have h2 : w.heap.size = g := h; omega
  have hS := Lib.hid (strike_swap (l := l.map Pk.z) (i := i) (o := o) (b := b) (by rw [List.length_map]; exact hi) (by rw [List.length_map]; exact ho) hb)
  have HB := Lib.hid (ga.mono hbase)
  have hv : wrap64 ((i : Int) + b) = (o : Int) := by rw [hb]; exact Go.IntWalk.wrap64_in _ (by omega)
  have hiI : (i : Int) < (l.length : Int) := by omega
  have hoI : (o : Int) < (l.length : Int) := by omega
  have hoD : decide ((o : Int) < (l.length : Int)) = true := by simp [ho]
  clear h ga kF hb hI
  go_enter Try.func72, Try.ntmps72
  go_wp2_with fail
  simp only [hv]
  generalize w.alloc (.cells #[.int .i64 3, .int .i64 i, .int .i64 b] 93) = w1 at *
  obtain ⟨d0, d1, d2, d3, d4⟩ := pks_lit (own_row HI.out.row) hi
  obtain ⟨e0, e1, e2, e3, e4⟩ := pks_lit (own_row HI.out.row) ho
  generalize hx : l[i] = x at *
  generalize hy : l[o] = y at *
  obtain ⟨xk, ⟨x1, x2⟩, xf, ⟨xA, xc, xz⟩⟩ := x
  obtain ⟨yk, ⟨y1, y2⟩, yf, ⟨yA, yc, yz⟩⟩ := y
  simp only at d0 d1 d2 d3 d4 e0 e1 e2 e3 e4
  refine wp_region_cls (Ch (At g) w1) 16 (by kernel_rfl) ?_
  have hc0 := (Ch.refl (At g) w1).drew
  refine AllC.head 0 8 (fuel := 10) (by first | exact fun h k => Grew.trans h k | exact fun h k => cls_grew h k) (hc0) (by rfl) (by kernel_rfl) ?_
  simp only [List.take_succ_cons, List.take_zero, List.drop_succ_cons, List.drop_zero]
  repeat (first
    | (refine HeadC.val (by rfl) ?_
       apply Exists.intro
       refine ⟨fun w' hw' => ?_, ?_⟩
       · (have hf_0 := hw'.cell c1 hng; (go_simp) <;> (try go_ints) <;> with_reducible rfl)
       try simp only [Act.put, List.setIfInBounds_toArray, List.set_cons_zero, List.set_cons_succ])
    | (refine HeadC.shut (by rfl) ?_
       try simp only [Act.put, List.setIfInBounds_toArray, List.set_cons_zero, List.set_cons_succ]))
  refine HeadC.nil ?_
  refine AllC.head 9 4 (fuel := 6) (by first | exact fun h k => Grew.trans h k | exact fun h k => cls_grew h k) (hc0) (by rfl) (by kernel_rfl) ?_
  simp only [List.take_succ_cons, List.take_zero, List.drop_succ_cons, List.drop_zero]
  repeat (first
    | (refine HeadC.val (by rfl) ?_
       apply Exists.intro
       refine ⟨fun w' hw' => ?_, ?_⟩
       · (have hf_0 := hw'.cell c1 hng; (go_simp) <;> (try go_ints) <;> with_reducible rfl)
       try simp only [Act.put, List.setIfInBounds_toArray, List.set_cons_zero, List.set_cons_succ])
    | (refine HeadC.shut (by rfl) ?_
       try simp only [Act.put, List.setIfInBounds_toArray, List.set_cons_zero, List.set_cons_succ]))
  refine HeadC.nil ?_
  have HIw := Lib.hid (HI.out.row)
  have hpi : i * 5 + 5 ≤ (pksC l).length := by rw [pksC_len]; omega
  have hpo : o * 5 + 5 ≤ (pksC l).length := by rw [pksC_len]; omega
  refine AllC.both [8, 13] (by kernel_rfl) (by simp) ?_
  intro wg hg i' hi'
  simp only [List.mem_cons, List.not_mem_nil, or_false] at hi'
  rcases hi' with rfl | rfl
  · refine ⟨_, rfl, fun K hK => ?_⟩
    have hg0 : Grew w1 wg := (grew_drew _).trans hg
    replace d0 := cell_up hg0 d0; replace d1 := cell_up hg0 d1; replace d2 := cell_up hg0 d2; replace d3 := cell_up hg0 d3; replace d4 := cell_up hg0 d4
    replace e0 := cell_up hg0 e0; replace e1 := cell_up hg0 e1; replace e2 := cell_up hg0 e2; replace e3 := cell_up hg0 e3; replace e4 := cell_up hg0 e4
    go_simp
    refine hK.out _ _ (hc0.next hg) ?_
    clear hK K hg
    try simp only [Act.put, List.setIfInBounds_toArray, List.set_cons_zero, List.set_cons_succ]
    obtain ⟨wh, hwh⟩ : ∃ x, x = wg := ⟨_, rfl⟩
    subst hwh
    refine AllC.one 13 (by kernel_rfl) rfl ?_
    intro wg hg K hK
    replace hg0 := Grew.trans hg0 hg
    replace d0 := cell_up hg d0; replace d1 := cell_up hg d1; replace d2 := cell_up hg d2; replace d3 := cell_up hg d3; replace d4 := cell_up hg d4
    replace e0 := cell_up hg e0; replace e1 := cell_up hg e1; replace e2 := cell_up hg e2; replace e3 := cell_up hg e3; replace e4 := cell_up hg e4
    go_simp
    refine hK.out _ _ (Ch.of_below hg0) ?_
    clear hK K hg
    try simp only [Act.put, List.setIfInBounds_toArray, List.set_cons_zero, List.set_cons_succ]
    clear wh
    obtain ⟨wh, hwh⟩ : ∃ x, x = wg := ⟨_, rfl⟩
    subst hwh
    refine AllC.one 14 (by kernel_rfl) rfl ?_
    intro wg hg K hK
    replace hg0 := Grew.trans hg0 hg
    replace d0 := cell_up hg d0; replace d1 := cell_up hg d1; replace d2 := cell_up hg d2; replace d3 := cell_up hg d3; replace d4 := cell_up hg d4
    replace e0 := cell_up hg e0; replace e1 := cell_up hg e1; replace e2 := cell_up hg e2; replace e3 := cell_up hg e3; replace e4 := cell_up hg e4
    go_simp
    refine hK.out _ _ (Ch.of_below hg0) ?_
    clear hK K hg
    try simp only [Act.put, List.setIfInBounds_toArray, List.set_cons_zero, List.set_cons_succ]
    clear wh
    obtain ⟨wh, hwh⟩ : ∃ x, x = wg := ⟨_, rfl⟩
    subst hwh
    refine AllC.one 15 (by kernel_rfl) rfl ?_
    intro wg hg K hK
    replace hg0 := Grew.trans hg0 hg
    replace d0 := cell_up hg d0; replace d1 := cell_up hg d1; replace d2 := cell_up hg d2; replace d3 := cell_up hg d3; replace d4 := cell_up hg d4
    replace e0 := cell_up hg e0; replace e1 := cell_up hg e1; replace e2 := cell_up hg e2; replace e3 := cell_up hg e3; replace e4 := cell_up hg e4
    have hor := own_below HIw.out hg0
    have f0 := hor.frozenAt (i * 5); have f1 := hor.frozenAt (i * 5 + 1); have f2 := hor.frozenAt (i * 5 + 2); have f3 := hor.frozenAt (i * 5 + 3); have f4 := hor.frozenAt (i * 5 + 4)
    go_simp
    have hs := own_puts [.int .i64 yk, .int .u64 y1, .int .i64 y2, .int .i64 yf, .slice yA yz.length yc] (i * 5) hor hpi
    have s1 : ((((((wg.setCell ⟨g, i * 5, none⟩ (.int .i64 yk)).setCell ⟨g, i * 5 + 1, none⟩ (.int .u64 y1)).setCell ⟨g, i * 5 + 2, none⟩ (.int .i64 y2)).setCell ⟨g, i * 5 + 3, none⟩ (.int .i64 yf)).setCell ⟨g, i * 5 + 4, none⟩ (.slice yA yz.length yc))).ownsRow base 55 5 (.slice (some ⟨g, 0, none⟩) l.length c) l.length (pksC (l.set i ⟨yk, (y1, y2), yf, ⟨yA, yc, yz⟩⟩)) := by
      rw [pksC_set _ _ _ hi]; exact hs.1
    have s2 : Ch (At g) wg ((((((wg.setCell ⟨g, i * 5, none⟩ (.int .i64 yk)).setCell ⟨g, i * 5 + 1, none⟩ (.int .u64 y1)).setCell ⟨g, i * 5 + 2, none⟩ (.int .i64 y2)).setCell ⟨g, i * 5 + 3, none⟩ (.int .i64 yf)).setCell ⟨g, i * 5 + 4, none⟩ (.slice yA yz.length yc))) := hs.2
    have s3 : Ch (At g) w1 ((((((wg.setCell ⟨g, i * 5, none⟩ (.int .i64 yk)).setCell ⟨g, i * 5 + 1, none⟩ (.int .u64 y1)).setCell ⟨g, i * 5 + 2, none⟩ (.int .i64 y2)).setCell ⟨g, i * 5 + 3, none⟩ (.int .i64 yf)).setCell ⟨g, i * 5 + 4, none⟩ (.slice yA yz.length yc))) := (Ch.of_below hg0).trans s2
    refine hK.out _ _ s3 ?_
    clear hK K hg hs s2 f0 f1 f2 f3 f4 hor hg0 d0 d1 d2 d3 d4 e0 e1 e2 e3 e4
    try simp only [Act.put, List.setIfInBounds_toArray, List.set_cons_zero, List.set_cons_succ]
    generalize (((((wg.setCell ⟨g, i * 5, none⟩ (.int .i64 yk)).setCell ⟨g, i * 5 + 1, none⟩ (.int .u64 y1)).setCell ⟨g, i * 5 + 2, none⟩ (.int .i64 y2)).setCell ⟨g, i * 5 + 3, none⟩ (.int .i64 yf)).setCell ⟨g, i * 5 + 4, none⟩ (.slice yA yz.length yc)) = ws at *
    clear wg wh
    refine AllC.tail 16 (by rfl) (by kernel_rfl) ?_
    intro wt hwt
    simp only [List.drop_succ_cons, List.drop_zero]
    replace s3 := s3.next hwt
    replace s1 := own_below s1 hwt
    have s1' : wt.ownsRow base 55 5 (.slice (some ⟨g, 0, none⟩) (l.set i ⟨yk, (y1, y2), yf, ⟨yA, yc, yz⟩⟩).length c) (l.set i ⟨yk, (y1, y2), yf, ⟨yA, yc, yz⟩⟩).length (pksC (l.set i ⟨yk, (y1, y2), yf, ⟨yA, yc, yz⟩⟩)) := by rw [List.length_set]; exact s1
    obtain ⟨d0, d1, d2, d3, d4⟩ := pks_lit (own_row s1') (k := o) (by rw [List.length_set]; exact ho)
    have f0 := s1.frozenAt (o * 5); have f1 := s1.frozenAt (o * 5 + 1); have f2 := s1.frozenAt (o * 5 + 2); have f3 := s1.frozenAt (o * 5 + 3); have f4 := s1.frozenAt (o * 5 + 4)
    have hs := own_puts [.int .i64 xk, .int .u64 x1, .int .i64 x2, .int .i64 xf, .slice xA xz.length xc] (o * 5) s1 (by rw [pksC_len, List.length_set]; simp only [List.length_cons, List.length_nil]; omega)
    have t1 : ((((((wt.setCell ⟨g, o * 5, none⟩ (.int .i64 xk)).setCell ⟨g, o * 5 + 1, none⟩ (.int .u64 x1)).setCell ⟨g, o * 5 + 2, none⟩ (.int .i64 x2)).setCell ⟨g, o * 5 + 3, none⟩ (.int .i64 xf)).setCell ⟨g, o * 5 + 4, none⟩ (.slice xA xz.length xc))).ownsRow base 55 5 (.slice (some ⟨g, 0, none⟩) l.length c) l.length (pksC ((l.set i ⟨yk, (y1, y2), yf, ⟨yA, yc, yz⟩⟩).set o ⟨xk, (x1, x2), xf, ⟨xA, xc, xz⟩⟩)) := by
      rw [pksC_set _ _ _ (by rw [List.length_set]; exact ho)]; exact hs.1
    have t2 : Ch (At g) w1 ((((((wt.setCell ⟨g, o * 5, none⟩ (.int .i64 xk)).setCell ⟨g, o * 5 + 1, none⟩ (.int .u64 x1)).setCell ⟨g, o * 5 + 2, none⟩ (.int .i64 x2)).setCell ⟨g, o * 5 + 3, none⟩ (.int .i64 xf)).setCell ⟨g, o * 5 + 4, none⟩ (.slice xA xz.length xc))) := s3.trans hs.2
    have HT1 := Lib.hid t1
    have HT2 := Lib.hid t2
    clear hs t1 t2 s1 s1' s3 hwt c1 c2
    go_wp2_with fail
    go_ret
    have hgb : base ≤ g := own_lt HI.out.row g rfl
    have hpo2 := (HI.out.own.swap hi ho).ch HT2.out (fun x' hx' q hq h => by
      have h2 : q = g := h
      subst h2
      exact HI.out.apart ((List.set_set_perm hi ho).mem_iff.1 hx') hq rfl)
    rw [hx, hy] at hpo2
    refine ⟨some ⟨g, 0, none⟩, c, (l.set i ⟨yk, (y1, y2), yf, ⟨yA, yc, yz⟩⟩).set o ⟨xk, (x1, x2), xf, ⟨xA, xc, xz⟩⟩, by simp only [List.length_set]; rfl, ?_, ⟨by simp only [List.length_set]; exact HT1.out, hpo2⟩, ?_⟩
    · rw [hS.out, List.map_set, List.map_set, List.getElem_map, List.getElem_map, hx, hy]
    · exact Below.trans (B := base) HB.out (HT2.out.below (Nat.le_trans hbase HB.out.size) (fun q h => by have h2 : q = g := h; omega))
  · refine ⟨_, rfl, fun K hK => ?_⟩
    have hg0 : Grew w1 wg := (grew_drew _).trans hg
    replace d0 := cell_up hg0 d0; replace d1 := cell_up hg0 d1; replace d2 := cell_up hg0 d2; replace d3 := cell_up hg0 d3; replace d4 := cell_up hg0 d4
    replace e0 := cell_up hg0 e0; replace e1 := cell_up hg0 e1; replace e2 := cell_up hg0 e2; replace e3 := cell_up hg0 e3; replace e4 := cell_up hg0 e4
    go_simp
    refine hK.out _ _ (hc0.next hg) ?_
    clear hK K hg
    try simp only [Act.put, List.setIfInBounds_toArray, List.set_cons_zero, List.set_cons_succ]
    obtain ⟨wh, hwh⟩ : ∃ x, x = wg := ⟨_, rfl⟩
    subst hwh
    refine AllC.one 8 (by kernel_rfl) rfl ?_
    intro wg hg K hK
    replace hg0 := Grew.trans hg0 hg
    replace d0 := cell_up hg d0; replace d1 := cell_up hg d1; replace d2 := cell_up hg d2; replace d3 := cell_up hg d3; replace d4 := cell_up hg d4
    replace e0 := cell_up hg e0; replace e1 := cell_up hg e1; replace e2 := cell_up hg e2; replace e3 := cell_up hg e3; replace e4 := cell_up hg e4
    go_simp
    refine hK.out _ _ (Ch.of_below hg0) ?_
    clear hK K hg
    try simp only [Act.put, List.setIfInBounds_toArray, List.set_cons_zero, List.set_cons_succ]
    clear wh
    obtain ⟨wh, hwh⟩ : ∃ x, x = wg := ⟨_, rfl⟩
    subst hwh
    refine AllC.one 14 (by kernel_rfl) rfl ?_
    intro wg hg K hK
    replace hg0 := Grew.trans hg0 hg
    replace d0 := cell_up hg d0; replace d1 := cell_up hg d1; replace d2 := cell_up hg d2; replace d3 := cell_up hg d3; replace d4 := cell_up hg d4
    replace e0 := cell_up hg e0; replace e1 := cell_up hg e1; replace e2 := cell_up hg e2; replace e3 := cell_up hg e3; replace e4 := cell_up hg e4
    go_simp
    refine hK.out _ _ (Ch.of_below hg0) ?_
    clear hK K hg
    try simp only [Act.put, List.setIfInBounds_toArray, List.set_cons_zero, List.set_cons_succ]
    clear wh
    obtain ⟨wh, hwh⟩ : ∃ x, x = wg := ⟨_, rfl⟩
    subst hwh
    refine AllC.one 15 (by kernel_rfl) rfl ?_
    intro wg hg K hK
    replace hg0 := Grew.trans hg0 hg
    replace d0 := cell_up hg d0; replace d1 := cell_up hg d1; replace d2 := cell_up hg d2; replace d3 := cell_up hg d3; replace d4 := cell_up hg d4
    replace e0 := cell_up hg e0; replace e1 := cell_up hg e1; replace e2 := cell_up hg e2; replace e3 := cell_up hg e3; replace e4 := cell_up hg e4
    have hor := own_below HIw.out hg0
    have f0 := hor.frozenAt (i * 5); have f1 := hor.frozenAt (i * 5 + 1); have f2 := hor.frozenAt (i * 5 + 2); have f3 := hor.frozenAt (i * 5 + 3); have f4 := hor.frozenAt (i * 5 + 4)
    go_simp
    have hs := own_puts [.int .i64 yk, .int .u64 y1, .int .i64 y2, .int .i64 yf, .slice yA yz.length yc] (i * 5) hor hpi
    have s1 : ((((((wg.setCell ⟨g, i * 5, none⟩ (.int .i64 yk)).setCell ⟨g, i * 5 + 1, none⟩ (.int .u64 y1)).setCell ⟨g, i * 5 + 2, none⟩ (.int .i64 y2)).setCell ⟨g, i * 5 + 3, none⟩ (.int .i64 yf)).setCell ⟨g, i * 5 + 4, none⟩ (.slice yA yz.length yc))).ownsRow base 55 5 (.slice (some ⟨g, 0, none⟩) l.length c) l.length (pksC (l.set i ⟨yk, (y1, y2), yf, ⟨yA, yc, yz⟩⟩)) := by
      rw [pksC_set _ _ _ hi]; exact hs.1
    have s2 : Ch (At g) wg ((((((wg.setCell ⟨g, i * 5, none⟩ (.int .i64 yk)).setCell ⟨g, i * 5 + 1, none⟩ (.int .u64 y1)).setCell ⟨g, i * 5 + 2, none⟩ (.int .i64 y2)).setCell ⟨g, i * 5 + 3, none⟩ (.int .i64 yf)).setCell ⟨g, i * 5 + 4, none⟩ (.slice yA yz.length yc))) := hs.2
    have s3 : Ch (At g) w1 ((((((wg.setCell ⟨g, i * 5, none⟩ (.int .i64 yk)).setCell ⟨g, i * 5 + 1, none⟩ (.int .u64 y1)).setCell ⟨g, i * 5 + 2, none⟩ (.int .i64 y2)).setCell ⟨g, i * 5 + 3, none⟩ (.int .i64 yf)).setCell ⟨g, i * 5 + 4, none⟩ (.slice yA yz.length yc))) := (Ch.of_below hg0).trans s2
    refine hK.out _ _ s3 ?_
    clear hK K hg hs s2 f0 f1 f2 f3 f4 hor hg0 d0 d1 d2 d3 d4 e0 e1 e2 e3 e4
    try simp only [Act.put, List.setIfInBounds_toArray, List.set_cons_zero, List.set_cons_succ]
    generalize (((((wg.setCell ⟨g, i * 5, none⟩ (.int .i64 yk)).setCell ⟨g, i * 5 + 1, none⟩ (.int .u64 y1)).setCell ⟨g, i * 5 + 2, none⟩ (.int .i64 y2)).setCell ⟨g, i * 5 + 3, none⟩ (.int .i64 yf)).setCell ⟨g, i * 5 + 4, none⟩ (.slice yA yz.length yc)) = ws at *
    clear wg wh
    refine AllC.tail 16 (by rfl) (by kernel_rfl) ?_
    intro wt hwt
    simp only [List.drop_succ_cons, List.drop_zero]
    replace s3 := s3.next hwt
    replace s1 := own_below s1 hwt
    have s1' : wt.ownsRow base 55 5 (.slice (some ⟨g, 0, none⟩) (l.set i ⟨yk, (y1, y2), yf, ⟨yA, yc, yz⟩⟩).length c) (l.set i ⟨yk, (y1, y2), yf, ⟨yA, yc, yz⟩⟩).length (pksC (l.set i ⟨yk, (y1, y2), yf, ⟨yA, yc, yz⟩⟩)) := by rw [List.length_set]; exact s1
    obtain ⟨d0, d1, d2, d3, d4⟩ := pks_lit (own_row s1') (k := o) (by rw [List.length_set]; exact ho)
    have f0 := s1.frozenAt (o * 5); have f1 := s1.frozenAt (o * 5 + 1); have f2 := s1.frozenAt (o * 5 + 2); have f3 := s1.frozenAt (o * 5 + 3); have f4 := s1.frozenAt (o * 5 + 4)
    have hs := own_puts [.int .i64 xk, .int .u64 x1, .int .i64 x2, .int .i64 xf, .slice xA xz.length xc] (o * 5) s1 (by rw [pksC_len, List.length_set]; simp only [List.length_cons, List.length_nil]; omega)
    have t1 : ((((((wt.setCell ⟨g, o * 5, none⟩ (.int .i64 xk)).setCell ⟨g, o * 5 + 1, none⟩ (.int .u64 x1)).setCell ⟨g, o * 5 + 2, none⟩ (.int .i64 x2)).setCell ⟨g, o * 5 + 3, none⟩ (.int .i64 xf)).setCell ⟨g, o * 5 + 4, none⟩ (.slice xA xz.length xc))).ownsRow base 55 5 (.slice (some ⟨g, 0, none⟩) l.length c) l.length (pksC ((l.set i ⟨yk, (y1, y2), yf, ⟨yA, yc, yz⟩⟩).set o ⟨xk, (x1, x2), xf, ⟨xA, xc, xz⟩⟩)) := by
      rw [pksC_set _ _ _ (by rw [List.length_set]; exact ho)]; exact hs.1
    have t2 : Ch (At g) w1 ((((((wt.setCell ⟨g, o * 5, none⟩ (.int .i64 xk)).setCell ⟨g, o * 5 + 1, none⟩ (.int .u64 x1)).setCell ⟨g, o * 5 + 2, none⟩ (.int .i64 x2)).setCell ⟨g, o * 5 + 3, none⟩ (.int .i64 xf)).setCell ⟨g, o * 5 + 4, none⟩ (.slice xA xz.length xc))) := s3.trans hs.2
    have HT1 := Lib.hid t1
    have HT2 := Lib.hid t2
    clear hs t1 t2 s1 s1' s3 hwt c1 c2
    go_wp2_with fail
    go_ret
    have hgb : base ≤ g := own_lt HI.out.row g rfl
    have hpo2 := (HI.out.own.swap hi ho).ch HT2.out (fun x' hx' q hq h => by
      have h2 : q = g := h
      subst h2
      exact HI.out.apart ((List.set_set_perm hi ho).mem_iff.1 hx') hq rfl)
    rw [hx, hy] at hpo2
    refine ⟨some ⟨g, 0, none⟩, c, (l.set i ⟨yk, (y1, y2), yf, ⟨yA, yc, yz⟩⟩).set o ⟨xk, (x1, x2), xf, ⟨xA, xc, xz⟩⟩, by simp only [List.length_set]; rfl, ?_, ⟨by simp only [List.length_set]; exact HT1.out, hpo2⟩, ?_⟩
    · rw [hS.out, List.map_set, List.map_set, List.getElem_map, List.getElem_map, hx, hy]
    · exact Below.trans (B := base) HB.out (HT2.out.below (Nat.le_trans hbase HB.out.size) (fun q h => by have h2 : q = g := h; omega))
end
end

/- Carry37:
  transfer.Carry.
-/
section
section
set_option linter.unusedVariables false
set_option linter.unusedSimpArgs false
set_option linter.unnecessarySimpa false
open Go.RowKit
attribute [local go_sem ↓] Go.wp_at_zero Go.wp_at_succ

/-- the numbers of a fault are of their type -/
def FtOk (f : FtZ) : Prop := -9223372036854775808 ≤ f.at_ ∧ f.at_ ≤ 9223372036854775807 ∧ -9223372036854775808 ≤ f.by_ ∧ f.by_ ≤ 9223372036854775807
theorem disturb_any (A : Option Addr) (c base : Nat) (l : List Pk) (f : FtZ) (w : World) (h : PksIs w base A c l) (h0 : 0 ≤ f.at_) (h1 : f.at_ < l.length) (hf : FtOk f) (hn : l.length ≤ 16777215) (hz : ∀ x ∈ l, x.p.zs.length ≤ 70368744177664) (hbase : base ≤ w.heap.size) :
    Calls Try.prog 72 #[.slice A l.length c, .agg #[.int .i64 f.kind, .int .i64 f.at_, .int .i64 f.by_]] w (CarRes base (strike (l.map Pk.z) f) w) := by
  obtain ⟨k, a, b⟩ := f
  obtain ⟨_, _, f3, f4⟩ := hf
  simp only at h0 h1 f3 f4 ⊢
  obtain ⟨i, rfl⟩ : ∃ i : Nat, a = i := ⟨a.toNat, by omega⟩
  have hi : i < l.length := by omega
  obtain ⟨g, rfl, _, _⟩ := own_some h.row (by omega)
  by_cases k1 : k = 1
  · subst k1
    have hm : l.length = (l.length - 1) + 1 := by omega
    have := disturb_lose g (l.length - 1) c i base l b w h hm (by omega) (by omega) hbase
    rwa [← hm] at this
  by_cases k2 : k = 2
  · subst k2; exact disturb_repeat g c i base l b w h hi hn hz hbase
  by_cases k3 : k = 3
  · subst k3
    by_cases hb : 0 ≤ (i : Int) + b ∧ (i : Int) + b < (l.length : Int)
    · obtain ⟨o, ho⟩ : ∃ o : Nat, (i : Int) + b = o := ⟨((i : Int) + b).toNat, by omega⟩
      exact disturb_swap g c i o base l b w h hi (by omega) ho hn hbase
    · exact disturb_swap_no g c i base l b w h hi hb f3 f4 hn hbase
  by_cases k4 : k = 4
  · subst k4
    by_cases hb : 0 ≤ b ∧ b / 8 < (l[i].p.zs.length : Int)
    · obtain ⟨n, rfl⟩ : ∃ n : Nat, b = n := ⟨b.toNat, by omega⟩
      exact disturb_flip g c i base n l w h hi (by omega) (hz _ (List.getElem_mem hi)) hn hbase
    · exact disturb_flip_no g c i base l b w h hi hb f4 hn hbase
  · exact disturb_none _ c base k i b l w h hbase k1 k2 k3 k4

/-- the bytes of packets lie in memory -/
def PksIn (w : World) (l : List Pk) : Prop := ∀ x ∈ l, Row w w.heap.size x.p.A (x.p.zs.map (.int .u8)) ∧ x.p.zs.length ≤ 70368744177664
theorem PksIn.up {w w' : World} {l : List Pk} (h : PksIn w l) (k : Grew w w') : PksIn w' l := fun x hx => ⟨((h x hx).1.up k (Nat.le_refl _)).more k.size, (h x hx).2⟩
theorem ftsC_get (l : List FtZ) : ∀ (k : Nat) (h : k < l.length), (ftsC l)[k * 3]? = some (.int .i64 l[k].kind) ∧ (ftsC l)[k * 3 + 1]? = some (.int .i64 l[k].at_) ∧ (ftsC l)[k * 3 + 2]? = some (.int .i64 l[k].by_) := by
  induction l with
  | nil => intro k h; simp at h
  | cons x l ih =>
    intro k h
    cases k with
    | zero => exact ⟨rfl, rfl, rfl⟩
    | succ k =>
      have e : ftsC (x :: l) = ftC x ++ ftsC l := rfl
      have hl : (ftC x).length = 3 := rfl
      obtain ⟨a, b, c⟩ := ih k (by simpa using h)
      rw [e]
      have q : ∀ j, (ftC x ++ ftsC l)[(k + 1) * 3 + j]? = (ftsC l)[k * 3 + j]? := fun j => by
        rw [List.getElem?_append_right (by omega), hl]
        congr 1
        omega
      exact ⟨(q 0).trans a, (q 1).trans b, (q 2).trans c⟩
theorem fts_at {w : World} {B : Nat} {A : Option Addr} {l : List FtZ} (hr : Row w B A (ftsC l)) {k : Nat} (h : k < l.length) :
    ∃ ad : Addr, A = some ad ∧ ad.block < B ∧ w.cell? (ad.add (k * 3)) = some (.int .i64 l[k].kind) ∧ w.cell? ⟨(ad.add (k * 3)).block, (ad.add (k * 3)).off + 1, none⟩ = some (.int .i64 l[k].at_) ∧ w.cell? ⟨(ad.add (k * 3)).block, (ad.add (k * 3)).off + 2, none⟩ = some (.int .i64 l[k].by_) := by
  obtain ⟨g0, g1, g2⟩ := ftsC_get l k h
  have hl := ftsC_len l
  have hat : ∀ (ad : Addr), A = some ad → ∀ j, j < 3 → ∀ u, (ftsC l)[k * 3 + j]? = some u → w.cell? (ad.add (k * 3 + j)) = some u := fun ad e j hj u hu => by
    obtain ⟨ad2, e2, _, hc⟩ := hr.at_ (k := k * 3 + j) (by omega)
    obtain rfl : ad = ad2 := by rw [e] at e2; injection e2
    rw [← List.getElem?_eq_getElem] at hc
    exact hc.trans hu
  obtain ⟨ad, rfl, hb, _⟩ := hr.at_ (k := k * 3) (by omega)
  refine ⟨ad, rfl, hb, hat ad rfl 0 (by omega) _ g0, ?_, ?_⟩
  · rw [show (⟨(ad.add (k * 3)).block, (ad.add (k * 3)).off + 1, none⟩ : Addr) = ad.add (k * 3 + 1) from add_add ad (k * 3) 1]; exact hat ad rfl 1 (by omega) _ g1
  · rw [show (⟨(ad.add (k * 3)).block, (ad.add (k * 3)).off + 2, none⟩ : Addr) = ad.add (k * 3 + 2) from add_add ad (k * 3) 2]; exact hat ad rfl 2 (by omega) _ g2

set_option maxRecDepth 100000 in
set_option maxHeartbeats 2000000 in
theorem carry37_any (A : Option Addr) (cap : Nat) (pl : List Pk) (F : Option Addr) (fcap : Nat) (fs : List FtZ) (w : World) (hr : Row w w.heap.size A (pksC pl)) (hin : PksIn w pl) (hf : Row w w.heap.size F (ftsC fs)) (hok : ∀ f ∈ fs, FtOk f) (hn : pl.length + fs.length ≤ 16777215) :
    Calls Try.prog 40 #[.slice A pl.length cap, .slice F fs.length fcap] w (CarRes w.heap.size (carryZ (pl.map Pk.z) fs) w) := by
  have HOk := Lib.hid hok
  have HIn := Lib.hid hin
  have HFs := Lib.hid hf
  clear hok hin hf
  go_enter Try.func40, Try.ntmps40
  go_wp2_with fail
  go_loopw [5, 12] (fun s v wr => ∃ (k : Nat) (ql : List Pk) (Ao : Option Addr) (co : Nat), k ≤ pl.length ∧ v = .int .i64 k ∧ s = .slice Ao ql.length co ∧ Hid (ql.map Pk.z = (pl.take k).map Pk.z) ∧ PksIs wr w.heap.size Ao co ql ∧ Below w.heap.size w wr) (fun _ v _ => pl.length - (intOf v).toNat)
  case atStart => exact ⟨0, [], none, 0, Nat.zero_le _, rfl, rfl, Lib.hid (by simp), ⟨World.ownsRow_nil _ _ _ _, PkOwn.nil⟩, Below.refl _ _⟩
  case round =>
    obtain ⟨k, ql, Ao, co, hk, rfl, rfl, HQ, hI, hb⟩ := hrel
    have hql : ql.length = k := by
      have := congrArg List.length HQ.out
      rw [List.length_map, List.length_map, List.length_take] at this
      omega
    have hqk : ql.length ≤ k := Nat.le_of_eq hql
    clear hql
    by_cases hlt : k < pl.length
    · obtain ⟨ad, hA, hbl, d0, d1, d2, d3, d4⟩ := pks_at (hr.below hb (Nat.le_refl _)) hlt
      have hix := (HIn.out.up hb) _ (List.getElem_mem hlt)
      have hsn := Lib.hid (List.take_succ_eq_append_getElem hlt)
      generalize pl[k] = x at *
      obtain ⟨xk, ⟨x1, x2⟩, xf, ⟨xA, xc, xz⟩⟩ := x
      simp only [Part.v] at d0 d1 d2 d3 d4 hix
      have ga := grew_alloc wr (.cells #[.int .i64 xk, .int .u64 x1, .int .i64 x2, .int .i64 xf, .slice xA xz.length xc] 55)
      have kB := Blk.new wr 55 #[.int .i64 xk, .int .u64 x1, .int .i64 x2, .int .i64 xf, .slice xA xz.length xc]
      have HI := Lib.hid hI
      have HB := Lib.hid hb
      subst hA
      go_wp2_with fail
      refine (copied_any ⟨xk, (x1, x2), xf, ⟨xA, xc, xz⟩⟩ _ (hix.1.below ga (Nat.le_refl _) |>.more ga.size) hix.2).mono ?_
      rintro e w3 ⟨A', c', rfl, hown3, hg3⟩
      have hg4 := Grew.trans ga hg3
      have hI3 := HI.out.of hg4
      have hb3 : Below w.heap.size w w3 := Below.trans (B := w.heap.size) HB.out (hg4.mono HB.out.size)
      have hs1 := ga.size
      have hs2 := hg3.size
      have hlo : ∀ y ∈ ql, ∀ q, y.p.v.ownBlock = some q → q < (wr.alloc (.cells #[.int .i64 xk, .int .u64 x1, .int .i64 x2, .int .i64 xf, .slice xA xz.length xc] 55)).heap.size := fun y hy q hq => by have := (HI.out.own.lt hy q hq).2; omega
      clear ga kB d0 d1 d2 d3 d4 hg3 hg4 hI hb hix
      generalize (wr.alloc (.cells #[.int .i64 xk, .int .u64 x1, .int .i64 x2, .int .i64 xf, .slice xA xz.length xc] 55)).heap.size = B1 at *
      have hs0 := HB.out.size
      have gV := grew_alloc w3 (.cells #[.int .i64 xk, .int .u64 x1, .int .i64 x2, .int .i64 xf, .slice A' xz.length c'] 55)
      have kV := Blk.new w3 55 #[.int .i64 xk, .int .u64 x1, .int .i64 x2, .int .i64 xf, .slice A' xz.length c']
      have hI4 := hI3.of gV
      have hown4 := own_below hown3 gV
      have hb4 : Below w.heap.size w _ := Below.trans (B := w.heap.size) hb3 (gV.mono hb3.size)
      have hO4 := hI4.own.snoc (x := ⟨xk, (x1, x2), xf, ⟨A', c', xz⟩⟩) hlo (by omega) hown4
      have hs4 := gV.size
      have HX := Lib.hid (show ∀ (A8 : Option Addr) (c8 : Nat) (w8 : World), w8.ownsRow w.heap.size 55 5 (.slice A8 (ql.length + 1) c8) (ql.length + 1) (pksC ql ++ pkC ⟨xk, (x1, x2), xf, ⟨A', c', xz⟩⟩) → (w3.alloc (.cells #[.int .i64 xk, .int .u64 x1, .int .i64 x2, .int .i64 xf, .slice A' xz.length c'] 55)).grownBy w8 (Value.slice Ao ql.length co).ownBlock →
          PksIs w8 w.heap.size A8 c8 (ql ++ [⟨xk, (x1, x2), xf, ⟨A', c', xz⟩⟩]) ∧ Below w.heap.size w w8 from fun A8 c8 w8 h1 h2 => by
        refine ⟨⟨?_, hO4.ch (Ch.of_own h2) (fun x hx q hq h => ?_)⟩, Below.trans (B := w.heap.size) hb4 (below_grown h2 (Nat.le_trans hb3.size hs4) (own_lt hI4.row))⟩
        · rw [List.length_append, List.length_singleton, pksC_append, pksC_one]
          exact h1
        · rcases List.mem_append.1 hx with hx | hx
          · exact hI4.apart hx hq h
          · rw [List.mem_singleton] at hx
            subst hx
            exact own_own_ne hown4 hI4.row (by decide) q hq h)
      have hrow := hI4.row
      have HV := Lib.hid kV.row
      clear hI3 hI4 hown3 hown4 hb3 hb4 hO4 gV kV hlo
      go_wp2_with (at_builtin; refine wpList_append_row rfl (.tmp 16) (.tmp 19) rfl w.heap.size elem_pk (by rfl) hrow _ (by rfl) (by rfl) HV.out (ones_pk ⟨xk, (x1, x2), xf, ⟨A', c', xz⟩⟩) (by unfold maxLen; omega) (by omega) (by first | omega | (simp; omega)) ?_; intro A8 c8 w8 hown8 hg8 _)
      obtain ⟨hI8, hb8⟩ := HX.out A8 c8 w8 hown8 hg8
      have HI8 := Lib.hid hI8
      have HL : Hid ((ql ++ [(⟨xk, (x1, x2), xf, ⟨A', c', xz⟩⟩ : Pk)]).map Pk.z = (pl.take (k + 1)).map Pk.z) := Lib.hid (by rw [hsn.out, List.map_append, List.map_append, HQ.out]; rfl)
      clear hI8 hown8 hg8 HX hrow HV
      go_roundw
      case rel => exact ⟨k + 1, ql ++ [⟨xk, (x1, x2), xf, ⟨A', c', xz⟩⟩], A8, c8, by omega, by go_num, by rw [List.length_append]; rfl, HL, HI8.out, hb8⟩
      case measure => simp [intOf]; omega
    · obtain rfl : k = pl.length := by omega
      rw [List.take_length] at HQ
      have HI := Lib.hid hI
      have HB := Lib.hid hb
      have hqn : ql.length ≤ pl.length := hqk
      clear hI hb hqk
      go_wp2_with fail
      go_loopw [5, 24] (fun s v wr => ∃ (k : Nat) (ql : List Pk) (Ao : Option Addr) (co : Nat), k ≤ fs.length ∧ ql.length ≤ pl.length + k ∧ v = .int .i64 k ∧ s = .slice Ao ql.length co ∧ Hid (ql.map Pk.z = carryZ (pl.map Pk.z) (fs.take k)) ∧ Hid (∀ x ∈ ql, x.p.zs.length ≤ 70368744177664) ∧ PksIs wr w.heap.size Ao co ql ∧ Below w.heap.size w wr) (fun _ v _ => fs.length - (intOf v).toNat)
      case atStart => exact ⟨0, ql, Ao, co, Nat.zero_le _, hqn, rfl, rfl, Lib.hid (by rw [HQ.out]; rfl), Lib.hid (fun x hx => by
        have h1 : x.z ∈ ql.map Pk.z := List.mem_map_of_mem hx
        rw [HQ.out] at h1
        obtain ⟨y, hy, e⟩ := List.mem_map.1 h1
        have h2 := (HIn.out y hy).2
        have h3 : y.p.zs = x.p.zs := congrArg PkZ.zs e
        rw [← h3]; exact h2), HI.out, HB.out⟩
      case round =>
        clear HQ HI HB hqn
        obtain ⟨k, ql, Ao, co, hk, hqk, rfl, rfl, HQ, HZ, hI, hb⟩ := hrel
        by_cases hlt : k < fs.length
        · obtain ⟨ad, hA, hbl, d0, d1, d2⟩ := fts_at (HFs.out.below hb (Nat.le_refl _)) hlt
          have hok := HOk.out _ (List.getElem_mem hlt)
          have hsn := Lib.hid (carryZ_snoc (pl.map Pk.z) fs k hlt)
          generalize fs[k] = f at *
          obtain ⟨fk, fa, fb⟩ := f
          simp only at d0 d1 d2
          have HOKf := Lib.hid hok
          have ga := grew_alloc wr (.cells #[.int .i64 fk, .int .i64 fa, .int .i64 fb] 93)
          have kB := Blk.new wr 93 #[.int .i64 fk, .int .i64 fa, .int .i64 fb]
          have b0 := (kB.cell 0).trans (show _ = some (.int .i64 fk) from rfl)
          have b1 := (kB.cell 1).trans (show _ = some (.int .i64 fa) from rfl)
          have b2 := (kB.cell 2).trans (show _ = some (.int .i64 fb) from rfl)
          have HI := Lib.hid (hI.of ga)
          have HB : Hid (Below w.heap.size w (wr.alloc (.cells #[.int .i64 fk, .int .i64 fa, .int .i64 fb] 93))) := Lib.hid (Below.trans (B := w.heap.size) hb (ga.mono hb.size))
          have hs0 := HB.out.size
          clear hI hb ga kB hok
          subst hA
          by_cases h0 : 0 ≤ fa
          · by_cases h1 : fa < (ql.length : Int)
            · have HD := Lib.hid (disturb_any Ao co w.heap.size ql ⟨fk, fa, fb⟩ _ HI.out h0 h1 HOKf.out (by omega) HZ.out hs0)
              go_wp2_with fail
              refine HD.out.mono ?_
              clear HD b0 b1 b2 d0 d1 d2
              rintro e w3 ⟨A', c', q', rfl, hq', hI', hb'⟩
              have HL := Lib.hid (show q'.map Pk.z = carryZ (pl.map Pk.z) (fs.take (k + 1)) from by rw [hq', hsn.out, HQ.out])
              have HZ' : Hid (∀ x ∈ q', x.p.zs.length ≤ 70368744177664) := Lib.hid (fun x hx => by
                have h2 : x.z ∈ q'.map Pk.z := List.mem_map_of_mem hx
                rw [hq'] at h2
                obtain ⟨y, hy, e, _⟩ := strike_len h2
                obtain ⟨z, hz, rfl⟩ := List.mem_map.1 hy
                have h3 := HZ.out z hz
                have h4 : x.p.zs.length = z.p.zs.length := e
                rw [h4]; exact h3)
              have hlen : q'.length ≤ pl.length + (k + 1) := by
                have h2 := congrArg List.length hq'
                rw [List.length_map] at h2
                have h3 := strike_length (ql.map Pk.z) ⟨fk, fa, fb⟩
                rw [List.length_map] at h3
                omega
              have hbb := Lib.hid (Below.trans (B := w.heap.size) HB.out hb')
              have HI' := Lib.hid hI'
              clear hq' hI' hb' HI HB
              go_wp2_with fail
              go_roundw
              case rel => exact ⟨k + 1, q', A', c', by omega, hlen, by go_num, rfl, HL, HZ', HI'.out, hbb.out⟩
              case measure => simp [intOf]; omega
            · have hst : strike (carryZ (pl.map Pk.z) (fs.take k)) ⟨fk, fa, fb⟩ = carryZ (pl.map Pk.z) (fs.take k) := strike_no (by rw [← HQ.out, List.length_map]; exact fun h => h1 (by have h2 := h.2; simp only at h2; exact h2))
              have HL := Lib.hid (show ql.map Pk.z = carryZ (pl.map Pk.z) (fs.take (k + 1)) from by rw [hsn.out, hst]; exact HQ.out)
              clear hst
              go_wp2_with fail
              go_roundw
              case rel => exact ⟨k + 1, ql, Ao, co, by omega, by omega, by go_num, rfl, HL, HZ, HI.out, HB.out⟩
              case measure => simp [intOf]; omega
          · have hst : strike (carryZ (pl.map Pk.z) (fs.take k)) ⟨fk, fa, fb⟩ = carryZ (pl.map Pk.z) (fs.take k) := strike_no (by rw [← HQ.out, List.length_map]; exact fun h => h0 h.1)
            have HL := Lib.hid (show ql.map Pk.z = carryZ (pl.map Pk.z) (fs.take (k + 1)) from by rw [hsn.out, hst]; exact HQ.out)
            clear hst
            go_wp2_with fail
            go_roundw
            case rel => exact ⟨k + 1, ql, Ao, co, by omega, by omega, by go_num, rfl, HL, HZ, HI.out, HB.out⟩
            case measure => simp [intOf]; omega
        · obtain rfl : k = fs.length := by omega
          rw [List.take_length] at HQ
          go_wp2_with fail
          go_ret
          exact ⟨Ao, co, ql, rfl, HQ.out, hI, hb⟩

end
end

end Go.Proofs.Ytpoiejgoongllaa
