/-
  What the second form's bound says of a slice of integers among the arguments.
-/
import Derived.Test.YtpoiejgoongllaaFrame
namespace Go.Proofs.Ytpoiejgoongllaa
set_option linter.unusedVariables false
set_option linter.unusedSimpArgs false
set_option linter.unnecessarySimpa false
open Go.ChangeShapes Go.WideShapes Go.ChangeAt Go.RowKit Go.Joins

theorem bulk_one {H : Type} (d : DataW H) : 1 ≤ Rows.uptoBulk d := by
  cases d with
  | lit l => cases l <;> simp [Rows.uptoBulk]
  | nil => simp [Rows.uptoBulk]
  | ptr d => simp [Rows.uptoBulk]
  | slice elems spare => simp [Rows.uptoBulk]
  | agg parts => simp [Rows.uptoBulk]
  | iface t d => simp [Rows.uptoBulk]
  | map entries => simp [Rows.uptoBulk]
  | held h => simp [Rows.uptoBulk]
theorem bulk_len {H : Type} (l : List (DataW H)) : l.length ≤ Rows.uptoBulkAll l := by
  induction l with
  | nil => simp [Rows.uptoBulkAll]
  | cons x r ih => have := bulk_one x; simp only [Rows.uptoBulkAll, List.length_cons]; omega
theorem bulk_at {H : Type} {l : List (DataW H)} {j : Nat} {d : DataW H} (h : l[j]? = some d) : Rows.uptoBulk d ≤ Rows.uptoBulkAll l := by
  induction l generalizing j with
  | nil => simp at h
  | cons x r ih =>
    simp only [Rows.uptoBulkAll]
    cases j with
    | zero =>
      simp at h
      subst h
      omega
    | succ j =>
      have := ih (by simpa using h)
      omega
theorem bulk_bound {H : Type} {l : List (DataW H)} (hk : Rows.uptoSmall H l = true) : Rows.uptoBulkAll l ≤ 1048576 := of_decide_eq_true hk
theorem bulk_row {H : Type} {ds : List (DataW H)} (hk : Rows.uptoSmall H ds = true) {j : Nat} {k : IntKind} {d : DataW H} {zs : List Int} (hd : ds[j]? = some d)
    (h : d = .nil ∧ zs = [] ∨ ∃ sp, d = .slice (lits k zs) sp) : zs.length ≤ 1048576 := by
  have h1 := bulk_bound hk
  have h2 := bulk_at hd
  rcases h with ⟨_, rfl⟩ | ⟨sp, rfl⟩
  · simp
  · simp only [Rows.uptoBulk] at h2
    have h3 := bulk_len (lits (H := H) k zs)
    simp [lits] at h3 h2
    omega

end Go.Proofs.Ytpoiejgoongllaa
