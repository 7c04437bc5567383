/-
  What the manifests of small byte strings are.
-/
import Derived.Test.YtnjhipnfhapngaaKnown25
namespace Go.Proofs.Ytnjhipnfhapngaa
set_option linter.unusedVariables false
set_option linter.unusedSimpArgs false
set_option linter.unnecessarySimpa false
open Go.RowKit

/-- the length of all parts -/
def totP (ps : List Part) : Nat := (ps.map fun p => p.zs.length).sum
theorem totP_of (ps : List Part) : sumN (idsOf ps) = (totP ps : Int) := sumN_of ps
theorem idOf_ok {zs : List Int} (h1 : 1 ≤ zs.length) (h2 : zs.length ≤ 8192) : okId (idOf zs) = true := by
  unfold okId idOf
  simp only [Bool.and_eq_true, decide_eq_true_eq]
  have := sumZ_fp zs
  unfold Fp at this
  refine ⟨?_, by omega, by omega⟩
  rw [vldB_iff]
  omega
theorem small_ok {ps : List Part} (hS : SmallP ps) : (idsOf ps).all okId = true := by
  rw [List.all_eq_true]
  intro x hx
  obtain ⟨p, hp, rfl⟩ := List.mem_map.1 hx
  obtain ⟨h1, h2, _⟩ := hS p hp
  exact idOf_ok h1 (by omega)
theorem small_sum : ∀ {ps : List Part}, SmallP ps → totP ps ≤ 9 * ps.length
  | [], _ => by simp [totP]
  | p :: ps, h => by
    have h1 := small_sum (ps := ps) (fun q hq => h q (List.mem_cons_of_mem _ hq))
    have h2 := (h p (List.mem_cons_self ..)).2.1
    unfold totP at h1 ⊢
    simp only [List.map_cons, List.sum_cons, List.length_cons]
    omega
theorem small_chk {ps : List Part} (hS : SmallP ps) (hn : ps.length ≤ 1000) : chkM (sumN (idsOf ps)) (idsOf ps) = 0 := by
  have h := small_sum hS
  exact (chkM_ok (by rw [idsOf_length]; omega) (small_ok hS) rfl (by rw [totP_of]; omega)).symm
theorem idOf_wf {zs : List Int} (h : zs.length ≤ 9223372036854775807) : WfI (idOf zs) := by
  have h1 := sumZ_fp zs
  unfold Fp at h1
  refine ⟨⟨?_, ?_⟩, ?_, ?_⟩ <;> unfold idOf <;> simp only <;> omega
theorem small_wf {ps : List Part} (hS : SmallP ps) : ∀ x ∈ idsOf ps, WfI x := fun x hx => by
  obtain ⟨p, hp, rfl⟩ := List.mem_map.1 hx
  exact idOf_wf (by have := (hS p hp).2.1; omega)
theorem flat_len (ps : List Part) : (flat ps).length = totP ps := by
  unfold flat totP
  rw [List.length_flatMap]
theorem totP_take {ps : List Part} {k : Nat} (h : k < ps.length) : totP (ps.take (k + 1)) = totP (ps.take k) + ps[k].zs.length := by
  unfold totP
  rw [List.take_succ_eq_append_getElem h, List.map_append, List.sum_append]
  simp
theorem totP_le (ps : List Part) (k : Nat) : totP (ps.take k) ≤ totP ps := sum_take_le ps k
theorem idsOf_take (ps : List Part) (k : Nat) : (idsOf ps).take k = idsOf (ps.take k) := by unfold idsOf; rw [List.map_take]
theorem flat_at {ps : List Part} {k x : Nat} (hk : k < ps.length) (hx : x < ps[k].zs.length) : (flat ps)[totP (ps.take k) + x]? = some ps[k].zs[x] := by
  have e : flat ps = flat (ps.take k) ++ (ps[k].zs ++ flat (ps.drop (k + 1))) := by
    unfold flat
    conv => lhs; rw [← List.take_append_drop k ps, List.drop_eq_getElem_cons hk]
    rw [List.flatMap_append, List.flatMap_cons]
  rw [e, List.getElem?_append_right (by rw [flat_len]; omega), flat_len, Nat.add_sub_cancel_left, List.getElem?_append_left hx, List.getElem?_eq_getElem hx]
theorem pt_mem {ps : List Part} (hS : SmallP ps) {k : Nat} (h : k < ps.length) : 1 ≤ ps[k].zs.length ∧ ps[k].zs.length ≤ 9 ∧ Byt ps[k].zs := hS _ (List.getElem_mem h)

end Go.Proofs.Ytnjhipnfhapngaa
