/-
  Slices of structs that a function owns: an element taken out in place (slices.Delete), clones, the place of an ID.
-/
import Derived.Test.YtpoiejgoongllaaTx
import Derived.Test.YtpoiejgoongllaaIdz
import Derived.Test.YtpoiejgoongllaaPieces
namespace Go.Proofs.Ytpoiejgoongllaa
section
set_option linter.unusedVariables false
set_option linter.unusedSimpArgs false
set_option linter.unnecessarySimpa false
open Go.RowKit

theorem own_shrink {w : World} {base : Nat} {e : TypeId} {size g n cap m : Nat} {xs : List Value} (h : w.ownsRow base e size (.slice (some ⟨g, 0, none⟩) n cap) n xs) (hm : m ≤ n) :
    w.ownsRow base e size (.slice (some ⟨g, 0, none⟩) m cap) m (xs.take (m * size)) := by
  rcases h.2 with ⟨h', _⟩ | ⟨g', cap', cur, h', hb, hg, hnc, hcm, hcs, htake⟩
  · simp at h'
  · simp only [Value.slice.injEq, Option.some.injEq, Addr.mk.injEq, and_true, true_and] at h'
    obtain ⟨rfl, rfl⟩ := h'
    have hms : m * size ≤ n * size := Nat.mul_le_mul_right _ hm
    refine ⟨?_, .inr ⟨g, cap, cur, rfl, hb, hg, Nat.le_trans hm hnc, hcm, hcs, ?_⟩⟩
    · rw [List.length_take, h.1]; omega
    · rw [← htake, List.take_take, Nat.min_eq_left hms]
section
variable {P : Program} {w : World}
theorem grown_setRow (w : World) (g : Nat) (cs : Array Value) : w.grownBy (w.setRow g cs) (some g) :=
  ⟨rfl, rfl, rfl, by simp, fun k _ hk => setRow_other w g k cs (fun e => hk (by rw [e]))⟩
theorem run_append_shift (base : Nat) {t ty e : TypeId} {size bytes : Nat} (E : Elem P t e size bytes) {g m cap i : Nat} {xs : List Value}
    (hown : w.ownsRow base e size (.slice (some ⟨g, 0, none⟩) (m + 1) cap) (m + 1) xs) (hi : i ≤ m) (h1 : ∀ u ∈ xs, u.oneCell' = true) {A : Addr} (c : Nat) (hA : i = m ∨ A = ⟨g, (i + 1) * size, none⟩) :
    ∃ w' ys, (Builtin.append_ #[t, t] ty #[.slice (some ⟨g, 0, none⟩) i cap, .slice (some A) (m - i) c]).run P w = .ok (.slice (some ⟨g, 0, none⟩) m cap) w' ∧
      w'.ownsRow base e size (.slice (some ⟨g, 0, none⟩) (m + 1) cap) (m + 1) ys ∧ ys.take (m * size) = xs.take (i * size) ++ xs.drop ((i + 1) * size) ∧ w.grownBy w' (some g) := by
  obtain ⟨inf, z, hinf, hz, hsz, hby, hzs⟩ := E.hi
  have hlen := hown.1
  have hcellAt := hown.cellAt
  rcases hown.2 with ⟨h', _⟩ | ⟨g', cap', cur, h', hb, hg, hnc, hcm, hcs, htake⟩
  · simp at h'
  · simp only [Value.slice.injEq, Option.some.injEq, Addr.mk.injEq, and_true, true_and] at h'
    obtain ⟨rfl, rfl⟩ := h'
    have hms : (i + 1) * size + (m - i) * size = (m + 1) * size := by rw [← Nat.add_mul]; congr 1; omega
    have him : i * size + (m - i) * size = m * size := by rw [← Nat.add_mul]; congr 1; omega
    have hi1 : (i + 1) * size = i * size + size := by rw [Nat.add_mul, Nat.one_mul]
    have hm1 : (m + 1) * size = m * size + size := by rw [Nat.add_mul, Nat.one_mul]
    have hcap : (m + 1) * size ≤ cap * size := Nat.mul_le_mul_right _ hnc
    have hnl : (xs.drop ((i + 1) * size)).length = (m - i) * size := by rw [List.length_drop, hlen]; omega
    have hxl : xs.length ≤ cur.toList.length := by rw [hlen, Array.length_toList, hcs]; exact hcap
    have hrun := run_append_room (P := P) w t ty e inf E.ht hinf g i cap cur hg A (m - i) c (xs.drop ((i + 1) * size)) (by rw [hnl, hsz]) (fun j u hj => by
      have hj' : j < (m - i) * size := by rw [← hnl]; exact (List.getElem?_eq_some_iff.1 hj).1
      rcases hA with rfl | rfl
      · rw [Nat.sub_self, Nat.zero_mul] at hj'; omega
      · rw [List.getElem?_drop] at hj
        rw [Addr.add_lit, hcellAt _ (by omega)]
        exact hj) (fun u hu => h1 u (List.mem_of_mem_drop hu)) (by omega) (by rw [hnl, hsz, ← Array.length_toList, Array.length_toList, hcs]; omega)
    rw [hsz, hnl, show i + (m - i) = m by omega] at hrun
    have hT1 : cur.toList.take (i * size) = xs.take (i * size) := by rw [← htake, List.take_take, Nat.min_eq_left (by omega)]
    have hcl : cur.toList.length = cap * size := by rw [Array.length_toList, hcs]
    have hL1 : (cur.toList.take (i * size) ++ xs.drop ((i + 1) * size)).length = m * size := by rw [List.length_append, List.length_take, hnl, hcl]; omega
    refine ⟨_, (cur.toList.take (i * size) ++ xs.drop ((i + 1) * size) ++ cur.toList.drop (i * size + (m - i) * size)).take ((m + 1) * size), hrun, ⟨?_, .inr ⟨g, cap, _, rfl, hb, setRow_heap w g cur _ e (0, 0) hg, hnc, hcm, ?_, rfl⟩⟩, ?_, grown_setRow _ _ _⟩
    · rw [List.length_take, List.length_append, hL1, List.length_drop, hcl]; omega
    · simp only [List.size_toArray]
      rw [List.length_append, hL1, List.length_drop, hcl]; omega
    · rw [List.take_take, Nat.min_eq_left (by omega), List.take_append_of_le_length (by rw [hL1]; exact Nat.le_refl _), List.take_of_length_le (by rw [hL1]; exact Nat.le_refl _), hT1]
theorem run_clear_last (base : Nat) {t ty e : TypeId} {size bytes : Nat} (E : Elem P t e size bytes) {z : Value} (hzv : (zeroValue e).run P w = .ok z w) (hzs : z.cells.size = size) (hz1 : ∀ u ∈ z.cells.toList, u.oneCell' = true)
    {g m cap : Nat} {ys : List Value} (hown : w.ownsRow base e size (.slice (some ⟨g, 0, none⟩) (m + 1) cap) (m + 1) ys) (c : Nat) :
    ∃ w', (Builtin.clear_ #[t] ty #[.slice (some ⟨g, m * size, none⟩) 1 c]).run P w = .ok (.tuple #[]) w' ∧ w'.ownsRow base e size (.slice (some ⟨g, 0, none⟩) m cap) m (ys.take (m * size)) ∧ w.grownBy w' (some g) := by
  rcases hown.2 with ⟨h', _⟩ | ⟨g', cap', cur, h', hb, hg, hnc, hcm, hcs, htake⟩
  · simp at h'
  · simp only [Value.slice.injEq, Option.some.injEq, Addr.mk.injEq, and_true, true_and] at h'
    obtain ⟨rfl, rfl⟩ := h'
    have hm1 : (m + 1) * size = m * size + size := by rw [Nat.add_mul, Nat.one_mul]
    have hcap : (m + 1) * size ≤ cap * size := Nat.mul_le_mul_right _ hnc
    have hzl : (Builtin.zeroCells z.cells 1).toList = z.cells.toList := by
      apply List.ext_getElem
      · simp [Builtin.zeroCells]
      · intro i h1 h2
        simp only [Array.length_toList] at h2
        simp [Builtin.zeroCells, Nat.mod_eq_of_lt h2, getElem!_pos z.cells i h2]
    have hst := run_storeCells_at P g (m * size) e z.cells.toList 0 cur w hg (by rw [Array.length_toList, hzs]; omega) hz1
    simp only [Nat.add_zero] at hst
    have hcl : cur.toList.length = cap * size := by rw [Array.length_toList, hcs]
    refine ⟨w.setRow g (cur.toList.take (m * size) ++ z.cells.toList ++ cur.toList.drop (m * size + z.cells.toList.length)).toArray, ?_, ⟨?_, .inr ⟨g, cap, _, rfl, hb, setRow_heap w g cur _ e (0, 0) hg, by omega, hcm, ?_, ?_⟩⟩, grown_setRow _ _ _⟩
    · simp [Builtin.clear_, run_underlying E.ht, hzv, hzl, hst]
    · rw [List.length_take, hown.1]; omega
    · simp only [List.size_toArray]
      rw [List.length_append, List.length_append, List.length_take, List.length_drop, hcl, Array.length_toList, hzs]; omega
    · simp only [List.append_assoc]
      rw [List.take_append_of_le_length (by rw [List.length_take, hcl]; omega), List.take_take, Nat.min_self, ← htake, List.take_take, Nat.min_eq_left (by omega)]
theorem wpList_append_shift {ops : Array Oper} {rest : List Oper} {o : Oper} {a : Act} {Q : Exit → Act → World → Prop} (hgd : o.guard = none) (s x : Operand) {t : TypeId}
    (ho : o.op = .call { callee := .builtin .append, args := #[s, x], argTypes := #[t, t] })
    (base : Nat) {e : TypeId} {size bytes : Nat} (E : Elem P t e size bytes) {g m cap i : Nat} {xs : List Value}
    (hown : w.ownsRow base e size (.slice (some ⟨g, 0, none⟩) (m + 1) cap) (m + 1) xs) (hi : i ≤ m) (h1 : ∀ u ∈ xs, u.oneCell' = true) {A : Addr} {c d : Nat} (hs : a.eval s = .slice (some ⟨g, 0, none⟩) i cap) (hx : a.eval x = .slice (some A) d c) (hd : d = m - i) (hA : i = m ∨ A = ⟨g, (i + 1) * size, none⟩)
    (h : ∀ w' ys, w'.ownsRow base e size (.slice (some ⟨g, 0, none⟩) (m + 1) cap) (m + 1) ys → ys.take (m * size) = xs.take (i * size) ++ xs.drop ((i + 1) * size) → w.grownBy w' (some g) → wpList P ops Q rest (a.put o.dst (.slice (some ⟨g, 0, none⟩) m cap)) w') : wpList P ops Q (o :: rest) a w := by
  subst hd
  refine wpList_plain hgd fun K' hK' => ?_
  obtain ⟨w', ys, hrun, r1, r2, r3⟩ := run_append_shift (P := P) (w := w) (ty := o.type) base E hown hi h1 c hA
  unfold Oper.wp execOp
  simp only [ho, resolve, invoke, builtin, Sem.run_bind, Sem.run_pure, Result.andThen_ok, List.map_toArray, List.map_cons, List.map_nil, hs, hx, hrun]
  exact hK' _ _ (h w' ys r1 r2 r3)
theorem wpList_clear_last {ops : Array Oper} {rest : List Oper} {o : Oper} {a : Act} {Q : Exit → Act → World → Prop} (hgd : o.guard = none) (s : Operand) {t : TypeId}
    (ho : o.op = .call { callee := .builtin .clear, args := #[s], argTypes := #[t] })
    (base : Nat) {e : TypeId} {size bytes : Nat} (E : Elem P t e size bytes) {z : Value} (hzv : (zeroValue e).run P w = .ok z w) (hzs : z.cells.size = size) (hz1 : ∀ u ∈ z.cells.toList, u.oneCell' = true)
    {g m cap c : Nat} {ys : List Value} (hown : w.ownsRow base e size (.slice (some ⟨g, 0, none⟩) (m + 1) cap) (m + 1) ys) {off d : Nat} (hs : a.eval s = .slice (some ⟨g, off, none⟩) d c) (hoff : off = m * size) (hd : d = 1)
    (h : ∀ w', w'.ownsRow base e size (.slice (some ⟨g, 0, none⟩) m cap) m (ys.take (m * size)) → w.grownBy w' (some g) → wpList P ops Q rest (a.put o.dst (.tuple #[])) w') : wpList P ops Q (o :: rest) a w := by
  subst hoff
  subst hd
  refine wpList_plain hgd fun K' hK' => ?_
  obtain ⟨w', hrun, r1, r2⟩ := run_clear_last (P := P) (w := w) (ty := o.type) base E hzv hzs hz1 hown c
  unfold Oper.wp execOp
  simp only [ho, resolve, invoke, builtin, Sem.run_bind, Sem.run_pure, Result.andThen_ok, List.map_toArray, List.map_cons, List.map_nil, hs, hrun]
  exact hK' _ _ (h w' r1 r2)
end
end
end Go.Proofs.Ytpoiejgoongllaa
