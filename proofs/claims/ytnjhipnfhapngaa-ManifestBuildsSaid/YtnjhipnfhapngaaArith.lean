/-
  Plain arithmetic modulo the prime 2^61 - 1, on Int; and what bits of 64-bit numbers come to in it. No program in sight.
-/
import Derived.Laws.Bits64b
import Derived.Laws.BitsLemmas
import Derived.RowKit
namespace Go.Proofs.Ytnjhipnfhapngaa
set_option linter.unusedVariables false
set_option linter.unusedSimpArgs false
set_option linter.unnecessarySimpa false
open Go.RowKit

/-- the sum, the difference, the product modulo Prime -/
def fadd (a b : Int) : Int := (a + b) % 2305843009213693951
def fsub (a b : Int) : Int := (a - b) % 2305843009213693951
def fmul (a b : Int) : Int := (a * b) % 2305843009213693951

/-- a number below Prime -/
def Fp (a : Int) : Prop := 0 ≤ a ∧ a < 2305843009213693951

theorem fadd_lo (a b : Int) : 0 ≤ fadd a b := by unfold fadd; omega
theorem fadd_hi (a b : Int) : fadd a b < 2305843009213693951 := by unfold fadd; omega
theorem fsub_lo (a b : Int) : 0 ≤ fsub a b := by unfold fsub; omega
theorem fsub_hi (a b : Int) : fsub a b < 2305843009213693951 := by unfold fsub; omega
theorem fmul_lo (a b : Int) : 0 ≤ fmul a b := by unfold fmul; omega
theorem fmul_hi (a b : Int) : fmul a b < 2305843009213693951 := by unfold fmul; omega
theorem fadd_fp (a b : Int) : Fp (fadd a b) := ⟨fadd_lo a b, fadd_hi a b⟩
theorem fsub_fp (a b : Int) : Fp (fsub a b) := ⟨fsub_lo a b, fsub_hi a b⟩
theorem fmul_fp (a b : Int) : Fp (fmul a b) := ⟨fmul_lo a b, fmul_hi a b⟩

theorem fadd_low {a b : Int} (h0 : 0 ≤ a + b) (h : a + b < 2305843009213693951) : a + b = fadd a b := by unfold fadd; omega
theorem fadd_high {a b : Int} (h : a + b < 4611686018427387902) (h0 : 2305843009213693951 ≤ a + b) : a + b - 2305843009213693951 = fadd a b := by unfold fadd; omega
theorem fsub_neg {a b : Int} : fadd a (-b % 2305843009213693951) = fsub a b := by
  unfold fadd fsub; omega
theorem fsub_low {a b : Int} (ha : a < 2305843009213693951) (hb : 0 ≤ b) (h : b ≤ a) : a - b = fsub a b := by unfold fsub; omega
theorem fsub_high {a b : Int} (ha0 : 0 ≤ a) (hb : b < 2305843009213693951) (h : a < b) : a + (2305843009213693951 - b) = fsub a b := by unfold fsub; omega

/-- the low 61 bits of a 64-bit number -/
theorem low61 (lo : Int) (h0 : 0 ≤ lo) (h1 : lo < 18446744073709551616) : bits .and .u64 lo 2305843009213693951 = lo % 2305843009213693952 := by
  obtain ⟨n, rfl⟩ := Int.eq_ofNat_of_zero_le h0
  have h := bits_and_u64_nat n 2305843009213693951 (by omega) (by omega)
  have e : n &&& 2305843009213693951 = n % 2305843009213693952 := Nat.and_two_pow_sub_one_eq_mod n 61
  rw [e] at h
  exact h.trans (by omega)

/-- the high word moved by three, with the upper three bits of the low one -/
theorem high61 (hi lo : Int) (h0 : 0 ≤ hi) (h1 : hi < 288230376151711744) (l0 : 0 ≤ lo) (l1 : lo < 18446744073709551616) :
    bits .or .u64 (hi * 8) (lo / 2305843009213693952) = hi * 8 + lo / 2305843009213693952 := by
  obtain ⟨x, hx⟩ := Int.eq_ofNat_of_zero_le h0
  obtain ⟨y, hy⟩ := Int.eq_ofNat_of_zero_le (show 0 ≤ lo / 2305843009213693952 by omega)
  rw [hy]
  subst hx
  have h := bits_or_u64_nat (x * 8) y (by omega) (by omega)
  have e : x * 8 ||| y = x * 8 + y := by
    have h2 := Nat.two_pow_add_eq_or_of_lt (i := 3) (b := y) (by omega) x
    rw [Nat.mul_comm] at h2
    exact h2.symm
  rw [e] at h
  have e1 : ((x : Nat) : Int) * 8 = ((x * 8 : Nat) : Int) := by omega
  rw [e1, h]
  omega

/-- the words of a product, added modulo Prime, are the product modulo Prime -/
theorem fmul_words (a b hi lo : Int) (h : hi * 18446744073709551616 + lo = a * b) :
    fadd (lo % 2305843009213693952 % 2305843009213693951) ((hi * 8 + lo / 2305843009213693952) % 2305843009213693951) = fmul a b := by
  unfold fadd fmul
  rw [← h]
  omega
theorem fmul_words' (a b hi lo : Int) (h : hi * 18446744073709551616 + lo = a * b) :
    fadd (lo % 2305843009213693952) (hi * 8 + lo / 2305843009213693952) = fmul a b := by
  unfold fadd fmul
  rw [← h]
  omega

/-- the words of a product of two numbers below Prime -/
theorem words_hi (a b : Int) (ha : Fp a) (hb : Fp b) : 0 ≤ a * b / 18446744073709551616 ∧ a * b / 18446744073709551616 < 288230376151711744 := by
  obtain ⟨a0, a1⟩ := ha
  obtain ⟨b0, b1⟩ := hb
  have h0 : 0 ≤ a * b := Int.mul_nonneg a0 b0
  have h1 : a * b ≤ 2305843009213693951 * 2305843009213693951 := Int.mul_le_mul (by omega) (by omega) b0 (by omega)
  omega
theorem words_eq (x : Int) : x / 18446744073709551616 * 18446744073709551616 + x % 18446744073709551616 = x := by omega

/-- is (s, n) a valid ID? -/
def vldB (s n : Int) : Bool := decide (0 ≤ n ∧ n ≤ 1048576 ∧ s < 2305843009213693951 ∧ (0 < n ∨ s = 0))
theorem vldB_iff {s n : Int} : vldB s n = true ↔ (0 ≤ n ∧ n ≤ 1048576 ∧ s < 2305843009213693951 ∧ (0 < n ∨ s = 0)) := by unfold vldB; exact decide_eq_true_iff
theorem vldB_not {s n : Int} : vldB s n = false ↔ ¬ (0 ≤ n ∧ n ≤ 1048576 ∧ s < 2305843009213693951 ∧ (0 < n ∨ s = 0)) := by unfold vldB; exact decide_eq_false_iff_not

/-- what Fold gives -/
def foldI (v n : Int) : Int := if n ≤ 1 then 0 else v % n
theorem foldI_lo (v n : Int) : 0 ≤ foldI v n := by
  unfold foldI; split
  · omega
  · exact Int.emod_nonneg _ (by omega)
theorem foldI_hi (v n : Int) (h : 1 ≤ n) : foldI v n < n := by
  unfold foldI; split
  · omega
  · exact Int.emod_lt_of_pos _ (by omega)
theorem foldI_one {v n : Int} (h : n ≤ 1) : 0 = foldI v n := by unfold foldI; rw [if_pos h]
theorem foldI_neg {v n : Int} (h : 1 < n) (h0 : v.tmod n < 0) : v.tmod n + n = foldI v n := by
  unfold foldI; rw [if_neg (by omega)]
  have h3 := Int.emod_nonneg v (show n ≠ 0 by omega)
  rw [Int.tmod_eq_emod] at *
  split at h0 <;> split <;> omega
theorem foldI_pos {v n : Int} (h : 1 < n) (h0 : 0 ≤ v.tmod n) : v.tmod n = foldI v n := by
  unfold foldI; rw [if_neg (by omega)]
  have h4 := Int.emod_lt_of_pos v (show 0 < n by omega)
  rw [Int.tmod_eq_emod] at *
  split at h0 <;> split <;> omega
theorem tmod_bd (v : Int) {n : Int} (h : 1 < n) : -n < v.tmod n ∧ v.tmod n < n := ⟨Int.lt_tmod_of_pos v (by omega), Int.tmod_lt_of_pos v (by omega)⟩

/-- the fingerprint of a made ID -/
def madeS (s z n : Int) : Int := if foldI z (n + 1) = 0 then 0 else s % 2305843009213693951
theorem madeS_zero {s z n : Int} (h : foldI z (n + 1) = 0) : madeS s z n = 0 := by unfold madeS; rw [if_pos h]
theorem madeS_pos {s z n : Int} (h : foldI z (n + 1) ≠ 0) : madeS s z n = s % 2305843009213693951 := by unfold madeS; rw [if_neg h]
theorem madeS_fp (s z n : Int) : Fp (madeS s z n) := by unfold madeS Fp; split <;> omega
theorem made_vld (s z n : Int) (h0 : 0 ≤ n) (h1 : n ≤ 1048576) : vldB (madeS s z n) (foldI z (n + 1)) = true := by
  have h2 := foldI_lo z (n + 1)
  have h3 := foldI_hi z (n + 1) (by omega)
  have h4 := madeS_fp s z n
  rw [vldB_iff]
  refine ⟨h2, by omega, h4.2, ?_⟩
  rcases Int.lt_or_le 0 (foldI z (n + 1)) with h | h
  · exact .inl h
  · exact .inr (madeS_zero (by omega))

end Go.Proofs.Ytnjhipnfhapngaa
