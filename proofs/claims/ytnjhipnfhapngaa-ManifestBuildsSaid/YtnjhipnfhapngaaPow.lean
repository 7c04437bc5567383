/-
  Powers of Base modulo Prime as a plain function, and squaring.
-/
import Derived.Test.YtnjhipnfhapngaaPoly
namespace Go.Proofs.Ytnjhipnfhapngaa
set_option linter.unusedVariables false
set_option linter.unusedSimpArgs false
set_option linter.unnecessarySimpa false

def powZ : Nat → Int
  | 0 => 1
  | n + 1 => fmul (powZ n) 747382712868975713
theorem powZ_fp : ∀ n, Fp (powZ n)
  | 0 => by unfold powZ Fp; omega
  | n + 1 => fmul_fp _ _
theorem powZ_one : powZ 1 = 747382712868975713 := by decide
theorem fmul_comm (a b : Int) : fmul a b = fmul b a := by unfold fmul; rw [Int.mul_comm]
theorem fmul_assoc (a b c : Int) : fmul (fmul a b) c = fmul a (fmul b c) := by
  unfold fmul
  rw [Int.mul_emod, Int.emod_emod_of_dvd _ (Int.dvd_refl _), ← Int.mul_emod, Int.mul_assoc, Int.mul_emod a (b * c % _), Int.emod_emod_of_dvd _ (Int.dvd_refl _), ← Int.mul_emod]
theorem fmul_one {a : Int} (h : Fp a) : fmul a 1 = a := by unfold fmul; obtain ⟨h0, h1⟩ := h; omega
theorem powZ_add (a b : Nat) : fmul (powZ a) (powZ b) = powZ (a + b) := by
  induction b with
  | zero => exact fmul_one (powZ_fp a)
  | succ b ih =>
    show fmul (powZ a) (fmul (powZ b) _) = fmul (powZ (a + b)) _
    rw [← fmul_assoc, ih]
theorem powZ_sq (i : Nat) : fmul (powZ (2 ^ i)) (powZ (2 ^ i)) = powZ (2 ^ (i + 1)) := by
  rw [powZ_add, Nat.pow_succ]; congr 1; omega
theorem mod_hit (n i : Nat) (h : n / 2 ^ i % 2 = 1) : n % 2 ^ (i + 1) = n % 2 ^ i + 2 ^ i := by
  rw [Nat.pow_succ, Nat.mod_mul, h]; omega
theorem mod_miss (n i : Nat) (h : n / 2 ^ i % 2 = 0) : n % 2 ^ (i + 1) = n % 2 ^ i := by
  rw [Nat.pow_succ, Nat.mod_mul, h]; omega
theorem powZ_hit (n i : Nat) (h : n / 2 ^ i % 2 = 1) : fmul (powZ (n % 2 ^ i)) (powZ (2 ^ i)) = powZ (n % 2 ^ (i + 1)) := by rw [powZ_add, mod_hit n i h]
theorem powZ_miss (n i : Nat) (h : n / 2 ^ i % 2 = 0) : powZ (n % 2 ^ i) = powZ (n % 2 ^ (i + 1)) := by rw [mod_miss n i h]

end Go.Proofs.Ytnjhipnfhapngaa
