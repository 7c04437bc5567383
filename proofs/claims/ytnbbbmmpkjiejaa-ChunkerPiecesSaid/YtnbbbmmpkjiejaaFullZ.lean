/-
  The complete chunks of a list, and what follows them. Plain Lean.
-/
import Derived.Test.YtnbbbmmpkjiejaaCutsL
namespace Go.Proofs.Ytnbbbmmpkjiejaa
set_option linter.unusedVariables false
set_option linter.unusedSimpArgs false
set_option linter.unnecessarySimpa false

/-- the complete chunks of l have the lengths ls, r is what follows them -/
inductive FullZ (c : CutZ) : List Int → List Nat → List Int → Prop
  | stop {l : List Int} (h : nxtL c l = none) : FullZ c l [] l
  | go {l : List Int} {e : Nat} {ls : List Nat} {r : List Int} (h : nxtL c l = some e) (k : FullZ c (l.drop e) ls r) : FullZ c l (e :: ls) r
section
variable {c : CutZ} {l r a b : List Int} {ls : List Nat}
theorem FullZ.det (h : FullZ c l ls r) : ∀ {ls' r'}, FullZ c l ls' r' → ls = ls' ∧ r = r' := by
  induction h with
  | stop h0 =>
    intro ls' r' k
    cases k with
    | stop _ => exact ⟨rfl, rfl⟩
    | go h1 _ => rw [h0] at h1; cases h1
  | go h0 _ ih =>
    intro ls' r' k
    cases k with
    | stop h1 => rw [h0] at h1; cases h1
    | go h1 k =>
      rw [h0] at h1
      cases h1
      obtain ⟨rfl, rfl⟩ := ih k
      exact ⟨rfl, rfl⟩
theorem FullZ.none (h : FullZ c l ls r) : nxtL c r = none := by
  induction h with
  | stop h0 => exact h0
  | go _ _ ih => exact ih
theorem FullZ.sum (ok : c.Ok) (h : FullZ c l ls r) : ls.sum ≤ l.length ∧ r = l.drop ls.sum := by
  induction h with
  | stop h0 => exact ⟨Nat.zero_le _, rfl⟩
  | go h0 _ ih =>
    have hb := nxtL_bd ok h0
    obtain ⟨i1, i2⟩ := ih
    rw [List.length_drop] at i1
    rw [List.drop_drop] at i2
    rw [List.sum_cons]
    exact ⟨by omega, i2⟩
theorem FullZ.trans (h : FullZ c a ls r) : ∀ {b : List Int} {ls2 : List Nat} {r2 : List Int}, FullZ c (r ++ b) ls2 r2 → FullZ c (a ++ b) (ls ++ ls2) r2 := by
  induction h with
  | stop h0 => intro b ls2 r2 k; exact k
  | go h0 _ ih =>
    intro b ls2 r2 k
    refine .go (nxtL_append h0) ?_
    rw [List.drop_append_of_le_length (nxtL_some.1 h0).2.1]
    exact ih k
theorem FullZ.cuts (ok : c.Ok) (h : FullZ c a ls r) : ∀ {b : List Int} {ls2 : List Nat}, cutsL (ls ++ ls2) (a ++ b) = cutsL ls a ++ cutsL ls2 (r ++ b) := by
  induction h with
  | stop h0 => intro b ls2; rfl
  | go h0 _ ih =>
    intro b ls2
    have hl := (nxtL_some.1 h0).2.1
    rw [List.cons_append, cutsL, cutsL, List.take_append_of_le_length hl, List.drop_append_of_le_length hl, ih]
    rfl
theorem FullZ.lens (ok : c.Ok) (h : FullZ c l ls r) : lensZ c l = ls ++ (if r = [] then [] else [r.length]) := by
  induction h with
  | @stop l h0 =>
    by_cases e : l = []
    · subst e; rw [lensZ_nil, if_pos rfl]; rfl
    · rw [lensZ_none e h0, if_neg e]; rfl
  | go h0 _ ih => rw [lensZ_some ok h0, ih]; rfl
theorem FullZ.one (h : nxtL c l = some l.length) : FullZ c l [l.length] [] := .go h (by rw [List.drop_length]; exact .stop nxtL_nil)
theorem FullZ.count (ok : c.Ok) (h : FullZ c l ls r) : ls.length ≤ l.length := by
  induction h with
  | stop h0 => exact Nat.zero_le _
  | go h0 _ ih =>
    have hb := nxtL_bd ok h0
    rw [List.length_drop] at ih
    rw [List.length_cons]
    omega
theorem FullZ.pos (ok : c.Ok) (h : FullZ c l ls r) : ∀ n ∈ ls, 1 ≤ n := by
  induction h with
  | stop h0 => intro n hn; simp at hn
  | go h0 _ ih =>
    intro n hn
    rcases List.mem_cons.1 hn with rfl | hn
    · exact (nxtL_bd ok h0).2.2.2
    · exact ih n hn
theorem cutsL_one (l : List Int) : cutsL [l.length] l = [l] := by simp [cutsL]
/-- the whole list as chunks: the complete ones and what follows them -/
theorem FullZ.all (ok : c.Ok) (h : FullZ c l ls r) : cutsL (lensZ c l) l = cutsL ls l ++ (if r = [] then [] else [r]) := by
  have hs := (h.sum ok).2
  rw [h.lens ok]
  by_cases e : r = []
  · rw [if_pos e, if_pos e, List.append_nil, List.append_nil]
  · rw [if_neg e, if_neg e, cutsL_snoc, ← hs, List.take_length]
end

end Go.Proofs.Ytnbbbmmpkjiejaa
