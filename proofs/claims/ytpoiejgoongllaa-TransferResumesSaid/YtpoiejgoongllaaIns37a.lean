/-
  copy and append of a make onto slices of structs that a function owns.
-/
import Derived.Test.YtpoiejgoongllaaCopied37
import Derived.Lib.AppendZerosOnto
import Derived.Lib.Overlaps
namespace Go.Proofs.Ytpoiejgoongllaa
section
set_option linter.unusedVariables false
set_option linter.unusedSimpArgs false
set_option linter.unnecessarySimpa false
open Go.RowKit

section
variable {P : Program} {w : World}
theorem run_copy_own (base : Nat) {t ty e : TypeId} {size bytes : Nat} (E : Elem P t e size bytes) {g n cap : Nat} {xs : List Value} (hown : w.ownsRow base e size (.slice (some ⟨g, 0, none⟩) n cap) n xs)
    {k m dLen sLen : Nat} (hk : k + m ≤ n) (hm : Nat.min sLen dLen = m) (a : Addr) (sCap dCap : Nat) (news : List Value) (hl : news.length = m * size) (hsrc : ∀ j v, news[j]? = some v → w.cell? (a.add j) = some v) (h1 : ∀ v ∈ news, v.oneCell' = true) :
    ∃ w', (Builtin.copy_ #[t, t] ty #[.slice (some ⟨g, k * size, none⟩) dLen dCap, .slice (some a) sLen sCap]).run P w = .ok (goInt m) w' ∧
      w'.ownsRow base e size (.slice (some ⟨g, 0, none⟩) n cap) n (xs.take (k * size) ++ news ++ xs.drop ((k + m) * size)) ∧ w.grownBy w' (some g) := by
  obtain ⟨inf, z, hinf, hz, hsz, hby, hzs⟩ := E.hi
  rcases hown.2 with ⟨h', _⟩ | ⟨g', cap', cur, h', hb, hg, hnc, hcm, hcs, htake⟩
  · simp at h'
  · simp only [Value.slice.injEq, Option.some.injEq, Addr.mk.injEq, and_true, true_and] at h'
    obtain ⟨rfl, rfl⟩ := h'
    have hkm : (k + m) * size = k * size + m * size := Nat.add_mul _ _ _
    have hcap : n * size ≤ cap * size := Nat.mul_le_mul_right _ hnc
    have hkn : (k + m) * size ≤ n * size := Nat.mul_le_mul_right _ hk
    have hcl : cur.toList.length = cap * size := by rw [Array.length_toList, hcs]
    have hload := run_loadCells_list (P := P) w a news hsrc
    rw [hl] at hload
    have hst := run_storeCells_at P g (k * size) e news 0 cur w hg (by rw [hl, hcs]; omega) h1
    simp only [Nat.add_zero, hl] at hst
    refine ⟨w.setRow g (cur.toList.take (k * size) ++ news ++ cur.toList.drop (k * size + m * size)).toArray, ?_, ⟨?_, .inr ⟨g, cap, _, rfl, hb, setRow_heap w g cur _ e (0, 0) hg, hnc, hcm, ?_, ?_⟩⟩, grown_setRow _ _ _⟩
    · simp [Builtin.copy_, run_underlying E.ht, Builtin.lenOf, Builtin.firstCells, sizeOf, typeInfo, hinf, hsz, hm, hload, hst]
    · rw [List.length_append, List.length_append, List.length_take, List.length_drop, hown.1, hl]; omega
    · simp only [List.size_toArray]
      rw [List.length_append, List.length_append, List.length_take, List.length_drop, hcl, hl]; omega
    · simp only
      rw [← htake, List.take_take, Nat.min_eq_left (by omega), hkm]
      have hA : (cur.toList.take (k * size) ++ news).length = k * size + m * size := by rw [List.length_append, List.length_take, hcl, hl]; omega
      rw [List.take_append, List.take_of_length_le (by rw [hA]; omega), hA, List.drop_take]
theorem wp_copy_run37 {o : Oper} {a : Act} {K : Act → World → Prop} {Q : Exit → Act → World → Prop} (d s : Operand) (t t' : TypeId)
    (ho : o.op = .call { callee := .builtin .copy, args := #[d, s], argTypes := #[t, t'] }) (v u : Value) (hd : a.eval d = v) (hs : a.eval s = u) {v' : Value} {w' : World}
    (hr : (Builtin.copy_ #[t, t'] o.type #[v, u]).run P w = .ok v' w') (h : K (a.put o.dst v') w') : o.wp P a w K Q := by
  unfold Oper.wp execOp
  simp only [ho, resolve, invoke, builtin, Sem.run_bind, Sem.run_pure, Result.andThen_ok, List.map_toArray, List.map_cons, List.map_nil, hd, hs, hr]
  exact h
theorem wpList_copy_run37 {ops : Array Oper} {rest : List Oper} {o : Oper} {a : Act} {Q : Exit → Act → World → Prop} (hgd : o.guard = none) (d s : Operand) (t t' : TypeId)
    (ho : o.op = .call { callee := .builtin .copy, args := #[d, s], argTypes := #[t, t'] }) (v u : Value) (hd : a.eval d = v) (hs : a.eval s = u) {v' : Value} {w' : World}
    (hr : (Builtin.copy_ #[t, t'] o.type #[v, u]).run P w = .ok v' w') (h : wpList P ops Q rest (a.put o.dst v') w') : wpList P ops Q (o :: rest) a w :=
  wpList_plain hgd fun _ hK => wp_copy_run37 d s t t' ho v u hd hs hr (hK _ _ h)
theorem run_append_zeros_own (base : Nat) {t tn ty e : TypeId} {size bytes : Nat} (E : Elem P t e size bytes) {kn : IntKind} (htn : P.underlying tn = some (.int kn)) {g n cap i k : Nat} {xs : List Value} (hown : w.ownsRow base e size (.slice (some ⟨g, 0, none⟩) n cap) n xs)
    (hi : i ≤ n) (h0 : 0 < k) (hg : cap < i + k) (h63 : i + k ≤ 9223372036854775807) (hbig : (i + k) * bytes ≤ 140737488355328) (hbase : base ≤ w.heap.size) {v : Int} (hv : v = (k : Int)) :
    ∃ cap' w' ys, (Builtin.append_ #[t, tn] ty #[.slice (some ⟨g, 0, none⟩) i cap, .int .i64 v]).run P w = .ok (.slice (some ⟨w.heap.size, 0, none⟩) (i + k) cap') w' ∧
      w'.ownsRow base e size (.slice (some ⟨w.heap.size, 0, none⟩) (i + k) cap') (i + k) ys ∧ ys.take (i * size) = xs.take (i * size) ∧ Below w.heap.size w w' := by
  subst hv
  obtain ⟨inf, z, hinf, hz, hsz, hby, hzs⟩ := E.hi
  have hin : i * size ≤ n * size := Nat.mul_le_mul_right _ hi
  have hxl : (xs.take (i * size)).length = i * size := by rw [List.length_take, hown.1]; omega
  have hold : (Builtin.firstCells inf.size i (.slice (some ⟨g, 0, none⟩) i cap)).run P w.drew = .ok (xs.take (i * size)).toArray w.drew := by
    refine run_firstCells_some w.drew _ _ _ _ _ _ (by rw [hxl, hsz]) (fun j v hj => ?_)
    rw [List.getElem?_take] at hj
    split at hj
    · rename_i hji
      rw [Addr.add_lit, Nat.zero_add]
      exact (hown.cellAt j (by omega)).trans hj
    · cases hj
  have hfit := growslice_fits hg hbig
  have hkb : k * bytes ≤ 281474976710656 := by
    have : k * bytes ≤ (i + k) * bytes := Nat.mul_le_mul_right _ (by omega)
    omega
  have hrun := Lib.run_append_grow_zeros w t tn ty e inf z .i64 kn E.ht htn hinf hz (some ⟨g, 0, none⟩) i cap _ hold k h0 (by rw [hsz]; exact E.hsz) hg (by omega) (by rw [hby]; exact hkb) (by rw [hby]; exact hfit)
  have hG := grownCap_ge w (i + k) cap e
  have hGm := grownCap_le_maxLen w (i + k) cap e (by unfold maxLen; omega)
  generalize grownCap w (i + k) cap e = G at *
  have hzk : ∀ q, (Builtin.zeroCells z.cells q).size = q * size := fun q => by simp [Builtin.zeroCells, hzs]
  have hik : (i + k) * size = i * size + k * size := Nat.add_mul _ _ _
  have hGs : (G - (i + k)) * size = G * size - (i + k) * size := Nat.sub_mul _ _ _
  have hGl : (i + k) * size ≤ G * size := Nat.mul_le_mul_right _ hG
  have hcs : ((xs.take (i * size)).toArray ++ Builtin.zeroCells z.cells k ++ Builtin.zeroCells z.cells (G - (i + k))).size = G * size := by
    simp only [Array.size_append, List.size_toArray, hxl, hzk]
    omega
  refine ⟨G, _, (((xs.take (i * size)).toArray ++ Builtin.zeroCells z.cells k ++ Builtin.zeroCells z.cells (G - (i + k)))).toList.take ((i + k) * size), hrun, ⟨?_, .inr ⟨w.heap.size, G, _, rfl, hbase, heap_alloc_new w.drew _, hG, hGm, hcs, rfl⟩⟩, ?_, ?_⟩
  · rw [List.length_take, Array.length_toList, hcs]; omega
  · rw [List.take_take, Nat.min_eq_left (by omega)]
    simp only [Array.toList_append]
    rw [List.append_assoc, List.take_append_of_le_length (by rw [hxl]; exact Nat.le_refl _), List.take_take, Nat.min_self]
  · exact (grew_drew w).trans (grew_alloc w.drew _)
/-- spare room counts as elements -/
theorem own_spare {base : Nat} {e : TypeId} {size g n cap m : Nat} {xs : List Value} (h : w.ownsRow base e size (.slice (some ⟨g, 0, none⟩) n cap) n xs) (hm : n ≤ m) (hc : m ≤ cap) :
    ∃ ys, w.ownsRow base e size (.slice (some ⟨g, 0, none⟩) m cap) m ys ∧ ys.take (n * size) = xs := by
  rcases h.2 with ⟨h', _⟩ | ⟨g', cap', cur, h', hb, hg, hnc, hcm, hcs, htake⟩
  · simp at h'
  · simp only [Value.slice.injEq, Option.some.injEq, Addr.mk.injEq, and_true, true_and] at h'
    obtain ⟨rfl, rfl⟩ := h'
    have hms : n * size ≤ m * size := Nat.mul_le_mul_right _ hm
    have hmc : m * size ≤ cap * size := Nat.mul_le_mul_right _ hc
    refine ⟨cur.toList.take (m * size), ⟨?_, .inr ⟨g, cap, cur, rfl, hb, hg, hc, hcm, hcs, rfl⟩⟩, ?_⟩
    · rw [List.length_take, Array.length_toList, hcs]; omega
    · rw [List.take_take, Nat.min_eq_left hms, htake]
end
end
end Go.Proofs.Ytpoiejgoongllaa
