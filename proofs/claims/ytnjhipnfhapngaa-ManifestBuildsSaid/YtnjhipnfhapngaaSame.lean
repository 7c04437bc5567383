/-
  stockyardmake.SameSums: are two lists of numbers equal?
-/
import Derived.Test.YtnjhipnfhapngaaCh
namespace Go.Proofs.Ytnjhipnfhapngaa
set_option linter.unusedVariables false
set_option linter.unusedSimpArgs false
set_option linter.unnecessarySimpa false
open Go.RowKit Go.Lib

/-- equal up to k -/
theorem take_eq_succ {xs ys : List Int} {k : Nat} (h : xs.take k = ys.take k) (hx : k < xs.length) (hy : k < ys.length) (he : xs[k] = ys[k]) : xs.take (k + 1) = ys.take (k + 1) := by
  rw [List.take_succ_eq_append_getElem hx, List.take_succ_eq_append_getElem hy, h, he]
/-- are two lists of numbers equal? -/
def eqZ (xs ys : List Int) : Bool := decide (xs = ys)
theorem eqZ_same (xs : List Int) : eqZ xs xs = true := by unfold eqZ; simp
theorem eqZ_yes {xs ys : List Int} (h : xs = ys) : true = eqZ xs ys := by unfold eqZ; simp [h]
theorem eqZ_no {xs ys : List Int} (h : xs ≠ ys) : false = eqZ xs ys := by unfold eqZ; simp [h]

end Go.Proofs.Ytnjhipnfhapngaa
