/-
  The laws of fingerprints as a ring modulo Prime: the fingerprint of a concatenation, Join is associative, Rest undoes it. Plain arithmetic.
-/
import Derived.Test.YtnjhipnfhapngaaPoly
import Derived.Test.YtnjhipnfhapngaaPow
namespace Go.Proofs.Ytnjhipnfhapngaa
set_option linter.unusedVariables false
set_option linter.unusedSimpArgs false
set_option linter.unnecessarySimpa false

theorem emod_mul (x y : Int) : (x % 2305843009213693951 * y) % 2305843009213693951 = (x * y) % 2305843009213693951 := by
  have h : x % 2305843009213693951 * y = x * y - 2305843009213693951 * (x / 2305843009213693951 * y) := by
    rw [Int.emod_def, Int.sub_mul, Int.mul_assoc]
  rw [h]; omega
theorem mul_emod' (x y : Int) : (x * (y % 2305843009213693951)) % 2305843009213693951 = (x * y) % 2305843009213693951 := by
  rw [Int.mul_comm, emod_mul, Int.mul_comm]
theorem fassoc (a p b q c : Int) : fadd (fmul (fadd (fmul a p) b) q) c = fadd (fmul a (fmul p q)) (fadd (fmul b q) c) := by
  unfold fadd fmul
  rw [emod_mul, mul_emod', Int.add_mul, ← Int.mul_assoc]
  have h : (a * p) % 2305843009213693951 * q = a * p * q - 2305843009213693951 * (a * p / 2305843009213693951 * q) := by
    rw [Int.emod_def, Int.sub_mul, Int.mul_assoc 2305843009213693951]
  rw [h]
  generalize a * p * q = u; generalize a * p / 2305843009213693951 * q = v; generalize b * q = t
  omega
theorem fadd_zero {a : Int} (h : Fp a) : fadd a 0 = a := by unfold fadd; unfold Fp at h; omega
theorem zero_fadd {a : Int} (h : Fp a) : fadd 0 a = a := by unfold fadd; unfold Fp at h; omega
theorem zero_fmul (a : Int) : fmul 0 a = 0 := by unfold fmul; simp
theorem fsub_fadd {t b : Int} (h : Fp b) : fsub (fadd t b) t = b := by unfold fsub fadd; unfold Fp at h; omega
theorem fadd_fsub {w t : Int} (h : Fp w) : fadd t (fsub w t) = w := by unfold fsub fadd; unfold Fp at h; omega
theorem stepZ_eq (s z : Int) : stepZ s z = fadd (fmul s 747382712868975713) (z + 1) := rfl

theorem sumZ_append (x y : List Int) : sumZ (x ++ y) = fadd (fmul (sumZ x) (powZ y.length)) (sumZ y) := by
  suffices h : ∀ (n : Nat) (y : List Int), y.length = n → sumZ (x ++ y) = fadd (fmul (sumZ x) (powZ y.length)) (sumZ y) from h y.length y rfl
  intro n
  induction n with
  | zero =>
    intro y hy
    have : y = [] := List.eq_nil_of_length_eq_zero hy
    subst this
    rw [List.append_nil, sumZ_nil, List.length_nil]
    show sumZ x = fadd (fmul (sumZ x) 1) 0
    rw [fmul_one (sumZ_fp x), fadd_zero (sumZ_fp x)]
  | succ n ih =>
    intro y hy
    have hne : y ≠ [] := fun h => by rw [h] at hy; cases hy
    obtain ⟨y', z, rfl⟩ : ∃ y' z, y = y' ++ [z] := ⟨_, _, (List.dropLast_concat_getLast hne).symm⟩
    rw [List.length_append, List.length_singleton] at hy
    rw [← List.append_assoc, sumZ_snoc, sumZ_snoc, ih y' (by omega), stepZ_eq, fassoc, List.length_append, List.length_singleton, ← powZ_add, powZ_one, stepZ_eq]

/-- the ID of a byte string is valid up to MaxContent -/
theorem vld_sum {zs : List Int} (h : zs.length ≤ 1048576) : vldB (sumZ zs) zs.length = true := by
  refine vldB_iff.2 ⟨by omega, by omega, (sumZ_fp zs).2, ?_⟩
  cases zs with
  | nil => right; rfl
  | cons z t => left; simp only [List.length_cons]; omega

end Go.Proofs.Ytnjhipnfhapngaa
