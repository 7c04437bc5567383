/-
  The chunks of a list by their lengths. Plain Lean.
-/
import Derived.Test.YtnjhipnfhapngaaCutMore
namespace Go.Proofs.Ytnjhipnfhapngaa
set_option linter.unusedVariables false
set_option linter.unusedSimpArgs false
set_option linter.unnecessarySimpa false

/-- the pieces of a list of the given lengths -/
def cutsL : List Nat → List Int → List (List Int)
  | [], _ => []
  | n :: ns, l => l.take n :: cutsL ns (l.drop n)
theorem cutsL_length : ∀ (ns : List Nat) (l : List Int), (cutsL ns l).length = ns.length
  | [], _ => rfl
  | n :: ns, l => by simp [cutsL, cutsL_length ns]
theorem cutsL_snoc : ∀ (ns : List Nat) (n : Nat) (l : List Int), cutsL (ns ++ [n]) l = cutsL ns l ++ [(l.drop ns.sum).take n]
  | [], n, l => by simp [cutsL]
  | m :: ns, n, l => by simp [cutsL, cutsL_snoc ns n, List.drop_drop]
theorem take_succ_snoc {α : Type} (l : List α) (k : Nat) (h : k < l.length) : l.take (k + 1) = l.take k ++ [l[k]] := by simp
theorem cutsL_take (ns : List Nat) (k : Nat) (h : k < ns.length) (l : List Int) : cutsL (ns.take (k + 1)) l = cutsL (ns.take k) l ++ [(l.drop (ns.take k).sum).take ns[k]] := by
  rw [take_succ_snoc ns k h, cutsL_snoc]
theorem cutsL_flat : ∀ (ns : List Nat) (l : List Int), (cutsL ns l).flatten = l.take ns.sum
  | [], l => by simp [cutsL]
  | n :: ns, l => by rw [cutsL, List.flatten_cons, cutsL_flat ns, List.sum_cons, List.take_add]
theorem cutsL_lens : ∀ (ns : List Nat) (l : List Int), ns.sum ≤ l.length → (cutsL ns l).map List.length = ns
  | [], _, _ => rfl
  | n :: ns, l, h => by
    rw [List.sum_cons] at h
    rw [cutsL, List.map_cons, cutsL_lens ns _ (by rw [List.length_drop]; omega), List.length_take, Nat.min_eq_left (by omega)]
theorem take_sum_succ (ns : List Nat) (k : Nat) (h : k < ns.length) : (ns.take (k + 1)).sum = (ns.take k).sum + ns[k] := by
  rw [take_succ_snoc ns k h, List.sum_append]; simp
theorem take_sum_le : ∀ (ns : List Nat) (k : Nat), (ns.take k).sum ≤ ns.sum
  | [], k => by simp
  | n :: ns, 0 => by simp
  | n :: ns, k + 1 => by simp only [List.take_succ_cons, List.sum_cons]; have := take_sum_le ns k; omega
theorem psums_get : ∀ (ns : List Nat) (s k : Nat) (h : k < ns.length) (h' : k < (psums s ns).length), (psums s ns)[k] = s + (ns.take (k + 1)).sum
  | n :: ns, s, 0, h, h' => by simp [psums]
  | n :: ns, s, k + 1, h, h' => by
    simp only [psums, List.getElem_cons_succ, List.take_succ_cons, List.sum_cons]
    rw [psums_get ns (s + n) k (by simpa using h)]
    omega

end Go.Proofs.Ytnjhipnfhapngaa
