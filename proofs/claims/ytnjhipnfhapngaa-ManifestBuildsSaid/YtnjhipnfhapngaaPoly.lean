/-
  The fingerprint as a plain function: a polynomial in Base modulo Prime; powers of Base; no program in sight.
-/
import Derived.Test.YtnjhipnfhapngaaArith
namespace Go.Proofs.Ytnjhipnfhapngaa
set_option linter.unusedVariables false
set_option linter.unusedSimpArgs false
set_option linter.unnecessarySimpa false

/-- one step of the sum -/
def stepZ (s z : Int) : Int := fadd (fmul s 747382712868975713) (z + 1)
/-- the fingerprint of a list of bytes -/
def sumZ (zs : List Int) : Int := zs.foldl stepZ 0
theorem sumZ_nil : sumZ [] = 0 := rfl
theorem sumZ_snoc (zs : List Int) (z : Int) : sumZ (zs ++ [z]) = stepZ (sumZ zs) z := by simp [sumZ, List.foldl_append]
theorem stepZ_fp (s z : Int) : Fp (stepZ s z) := fadd_fp _ _
theorem foldl_fp (zs : List Int) : ∀ s, Fp s → Fp (zs.foldl stepZ s) := by
  induction zs with
  | nil => exact fun s h => h
  | cons z zs ih => exact fun s _ => ih _ (stepZ_fp s z)
theorem sumZ_fp (zs : List Int) : Fp (sumZ zs) := foldl_fp zs 0 (by unfold Fp; omega)
theorem sumZ_take (zs : List Int) (k : Nat) (h : k < zs.length) : sumZ (zs.take (k + 1)) = stepZ (sumZ (zs.take k)) zs[k] := by
  rw [List.take_succ_eq_append_getElem h, sumZ_snoc]

end Go.Proofs.Ytnjhipnfhapngaa
