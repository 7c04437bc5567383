/-
  A slice that reads as a list of cells, nil and empty ones let in; and how that carries over.
-/
import Derived.Test.YtnjhipnfhapngaaHeld
namespace Go.Proofs.Ytnjhipnfhapngaa
set_option linter.unusedVariables false
set_option linter.unusedSimpArgs false
set_option linter.unnecessarySimpa false
open Go.RowKit Go.Lib

theorem add_block (a : Addr) (n : Nat) : (a.add n).block = a.block := by unfold Addr.add; split <;> rfl
theorem add_add (a : Addr) (i j : Nat) : (a.add i).add j = a.add (i + j) := by
  unfold Addr.add
  by_cases hi : i = 0 <;> by_cases hj : j = 0 <;> simp [hi, hj, Nat.add_assoc]

/-- the cells from address A on are xs, and lie below block B; of an empty row nothing is said -/
def Row (w : World) (B : Nat) (A : Option Addr) (xs : List Value) : Prop :=
  xs = [] ∨ ∃ ad, A = some ad ∧ ad.block < B ∧ ∀ j, j < xs.length → w.cell? (ad.add j) = xs[j]?

theorem Row.nil {w : World} {B : Nat} {A : Option Addr} : Row w B A [] := .inl rfl
theorem Row.at_ {w : World} {B : Nat} {A : Option Addr} {xs : List Value} (h : Row w B A xs) {k : Nat} (hk : k < xs.length) :
    ∃ ad, A = some ad ∧ ad.block < B ∧ w.cell? (ad.add k) = some xs[k] := by
  rcases h with rfl | ⟨ad, e, hb, hc⟩
  · simp at hk
  · exact ⟨ad, e, hb, (hc k hk).trans (List.getElem?_eq_getElem hk)⟩
theorem Row.keep {w w' : World} {B : Nat} {A : Option Addr} {xs : List Value} (h : Row w B A xs) (hk : ∀ p : Addr, p.block < B → w'.cell? p = w.cell? p) : Row w' B A xs := by
  rcases h with rfl | ⟨ad, e, hb, hc⟩
  · exact .inl rfl
  · exact .inr ⟨ad, e, hb, fun j hj => (hk _ (by rw [add_block]; exact hb)).trans (hc j hj)⟩
theorem Row.below {w w' : World} {B N : Nat} {A : Option Addr} {xs : List Value} (h : Row w B A xs) (hb : Below N w w') (hB : B ≤ N) : Row w' B A xs :=
  h.keep fun p hp => hb.cell (by omega)
theorem Row.more {w : World} {B B' : Nat} {A : Option Addr} {xs : List Value} (h : Row w B A xs) (hB : B ≤ B') : Row w B' A xs := by
  rcases h with rfl | ⟨ad, e, hb, hc⟩
  · exact .inl rfl
  · exact .inr ⟨ad, e, by omega, hc⟩
/-- a part of a row: s[lo:hi] -/
theorem Row.cut {w : World} {B : Nat} {A : Option Addr} {xs : List Value} (h : Row w B A xs) (lo m : Nat) : Row w B (A.map (·.add lo)) ((xs.drop lo).take m) := by
  rcases h with rfl | ⟨ad, rfl, hb, hc⟩
  · left; simp
  · right
    refine ⟨ad.add lo, rfl, by rw [add_block]; exact hb, fun j hj => ?_⟩
    simp at hj
    rw [add_add, hc (lo + j) (by omega)]
    rw [List.getElem?_take, if_pos (by omega), List.getElem?_drop]
theorem Row.cut' {w : World} {B : Nat} {A : Option Addr} {xs : List Value} (h : Row w B A xs) {lo m cap : Nat} (hc : lo = cap → m = 0 ∨ xs.length ≤ lo) :
    Row w B (if cap = lo then A else A.map (·.add lo)) ((xs.drop lo).take m) := by
  split
  · rename_i e
    left
    rcases hc e.symm with h0 | h0
    · subst h0; simp
    · rw [List.drop_eq_nil_of_le h0]; simp
  · exact h.cut lo m

end Go.Proofs.Ytnjhipnfhapngaa
