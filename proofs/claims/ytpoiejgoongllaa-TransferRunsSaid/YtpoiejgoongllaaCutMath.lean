/-
  Arith, Poly, Pow, Ring, RollLaws, CutLaws, CutMore, CutsL.
-/
import Derived.Laws.Bits64b
import Derived.Laws.BitsLemmas
import Derived.RowKit
namespace Go.Proofs.Ytpoiejgoongllaa
/- Arith:
  Plain arithmetic modulo the prime 2^61 - 1, on Int; and what bits of 64-bit numbers come to in it. No program in sight.
-/
section
set_option linter.unusedVariables false
set_option linter.unusedSimpArgs false
set_option linter.unnecessarySimpa false
open Go.RowKit

/-- the sum, the difference, the product modulo Prime -/
def fadd (a b : Int) : Int := (a + b) % 2305843009213693951
def fsub (a b : Int) : Int := (a - b) % 2305843009213693951
def fmul (a b : Int) : Int := (a * b) % 2305843009213693951

/-- a number below Prime -/
def Fp (a : Int) : Prop := 0 ≤ a ∧ a < 2305843009213693951

theorem fadd_lo (a b : Int) : 0 ≤ fadd a b := by unfold fadd; omega
theorem fadd_hi (a b : Int) : fadd a b < 2305843009213693951 := by unfold fadd; omega
theorem fsub_lo (a b : Int) : 0 ≤ fsub a b := by unfold fsub; omega
theorem fsub_hi (a b : Int) : fsub a b < 2305843009213693951 := by unfold fsub; omega
theorem fmul_lo (a b : Int) : 0 ≤ fmul a b := by unfold fmul; omega
theorem fmul_hi (a b : Int) : fmul a b < 2305843009213693951 := by unfold fmul; omega
theorem fadd_fp (a b : Int) : Fp (fadd a b) := ⟨fadd_lo a b, fadd_hi a b⟩
theorem fsub_fp (a b : Int) : Fp (fsub a b) := ⟨fsub_lo a b, fsub_hi a b⟩
theorem fmul_fp (a b : Int) : Fp (fmul a b) := ⟨fmul_lo a b, fmul_hi a b⟩

theorem fadd_low {a b : Int} (h0 : 0 ≤ a + b) (h : a + b < 2305843009213693951) : a + b = fadd a b := by unfold fadd; omega
theorem fadd_high {a b : Int} (h : a + b < 4611686018427387902) (h0 : 2305843009213693951 ≤ a + b) : a + b - 2305843009213693951 = fadd a b := by unfold fadd; omega
theorem fsub_neg {a b : Int} : fadd a (-b % 2305843009213693951) = fsub a b := by
  unfold fadd fsub; omega
theorem fsub_low {a b : Int} (ha : a < 2305843009213693951) (hb : 0 ≤ b) (h : b ≤ a) : a - b = fsub a b := by unfold fsub; omega
theorem fsub_high {a b : Int} (ha0 : 0 ≤ a) (hb : b < 2305843009213693951) (h : a < b) : a + (2305843009213693951 - b) = fsub a b := by unfold fsub; omega

/-- the low 61 bits of a 64-bit number -/
theorem low61 (lo : Int) (h0 : 0 ≤ lo) (h1 : lo < 18446744073709551616) : bits .and .u64 lo 2305843009213693951 = lo % 2305843009213693952 := by
  obtain ⟨n, rfl⟩ := Int.eq_ofNat_of_zero_le h0
  have h := bits_and_u64_nat n 2305843009213693951 (by omega) (by omega)
  have e : n &&& 2305843009213693951 = n % 2305843009213693952 := Nat.and_two_pow_sub_one_eq_mod n 61
  rw [e] at h
  exact h.trans (by omega)

/-- the high word moved by three, with the upper three bits of the low one -/
theorem high61 (hi lo : Int) (h0 : 0 ≤ hi) (h1 : hi < 288230376151711744) (l0 : 0 ≤ lo) (l1 : lo < 18446744073709551616) :
    bits .or .u64 (hi * 8) (lo / 2305843009213693952) = hi * 8 + lo / 2305843009213693952 := by
  obtain ⟨x, hx⟩ := Int.eq_ofNat_of_zero_le h0
  obtain ⟨y, hy⟩ := Int.eq_ofNat_of_zero_le (show 0 ≤ lo / 2305843009213693952 by omega)
  rw [hy]
  subst hx
  have h := bits_or_u64_nat (x * 8) y (by omega) (by omega)
  have e : x * 8 ||| y = x * 8 + y := by
    have h2 := Nat.two_pow_add_eq_or_of_lt (i := 3) (b := y) (by omega) x
    rw [Nat.mul_comm] at h2
    exact h2.symm
  rw [e] at h
  have e1 : ((x : Nat) : Int) * 8 = ((x * 8 : Nat) : Int) := by omega
  rw [e1, h]
  omega

/-- the words of a product, added modulo Prime, are the product modulo Prime -/
theorem fmul_words (a b hi lo : Int) (h : hi * 18446744073709551616 + lo = a * b) :
    fadd (lo % 2305843009213693952 % 2305843009213693951) ((hi * 8 + lo / 2305843009213693952) % 2305843009213693951) = fmul a b := by
  unfold fadd fmul
  rw [← h]
  omega
theorem fmul_words' (a b hi lo : Int) (h : hi * 18446744073709551616 + lo = a * b) :
    fadd (lo % 2305843009213693952) (hi * 8 + lo / 2305843009213693952) = fmul a b := by
  unfold fadd fmul
  rw [← h]
  omega

/-- the words of a product of two numbers below Prime -/
theorem words_hi (a b : Int) (ha : Fp a) (hb : Fp b) : 0 ≤ a * b / 18446744073709551616 ∧ a * b / 18446744073709551616 < 288230376151711744 := by
  obtain ⟨a0, a1⟩ := ha
  obtain ⟨b0, b1⟩ := hb
  have h0 : 0 ≤ a * b := Int.mul_nonneg a0 b0
  have h1 : a * b ≤ 2305843009213693951 * 2305843009213693951 := Int.mul_le_mul (by omega) (by omega) b0 (by omega)
  omega
theorem words_eq (x : Int) : x / 18446744073709551616 * 18446744073709551616 + x % 18446744073709551616 = x := by omega

/-- is (s, n) a valid ID? -/
def vldB (s n : Int) : Bool := decide (0 ≤ n ∧ n ≤ 1048576 ∧ s < 2305843009213693951 ∧ (0 < n ∨ s = 0))
theorem vldB_iff {s n : Int} : vldB s n = true ↔ (0 ≤ n ∧ n ≤ 1048576 ∧ s < 2305843009213693951 ∧ (0 < n ∨ s = 0)) := by unfold vldB; exact decide_eq_true_iff
theorem vldB_not {s n : Int} : vldB s n = false ↔ ¬ (0 ≤ n ∧ n ≤ 1048576 ∧ s < 2305843009213693951 ∧ (0 < n ∨ s = 0)) := by unfold vldB; exact decide_eq_false_iff_not

/-- what Fold gives -/
def foldI (v n : Int) : Int := if n ≤ 1 then 0 else v % n
theorem foldI_lo (v n : Int) : 0 ≤ foldI v n := by
  unfold foldI; split
  · omega
  · exact Int.emod_nonneg _ (by omega)
theorem foldI_hi (v n : Int) (h : 1 ≤ n) : foldI v n < n := by
  unfold foldI; split
  · omega
  · exact Int.emod_lt_of_pos _ (by omega)
theorem foldI_one {v n : Int} (h : n ≤ 1) : 0 = foldI v n := by unfold foldI; rw [if_pos h]
theorem foldI_neg {v n : Int} (h : 1 < n) (h0 : v.tmod n < 0) : v.tmod n + n = foldI v n := by
  unfold foldI; rw [if_neg (by omega)]
  have h3 := Int.emod_nonneg v (show n ≠ 0 by omega)
  rw [Int.tmod_eq_emod] at *
  split at h0 <;> split <;> omega
theorem foldI_pos {v n : Int} (h : 1 < n) (h0 : 0 ≤ v.tmod n) : v.tmod n = foldI v n := by
  unfold foldI; rw [if_neg (by omega)]
  have h4 := Int.emod_lt_of_pos v (show 0 < n by omega)
  rw [Int.tmod_eq_emod] at *
  split at h0 <;> split <;> omega
theorem tmod_bd (v : Int) {n : Int} (h : 1 < n) : -n < v.tmod n ∧ v.tmod n < n := ⟨Int.lt_tmod_of_pos v (by omega), Int.tmod_lt_of_pos v (by omega)⟩

/-- the fingerprint of a made ID -/
def madeS (s z n : Int) : Int := if foldI z (n + 1) = 0 then 0 else s % 2305843009213693951
theorem madeS_zero {s z n : Int} (h : foldI z (n + 1) = 0) : madeS s z n = 0 := by unfold madeS; rw [if_pos h]
theorem madeS_pos {s z n : Int} (h : foldI z (n + 1) ≠ 0) : madeS s z n = s % 2305843009213693951 := by unfold madeS; rw [if_neg h]
theorem madeS_fp (s z n : Int) : Fp (madeS s z n) := by unfold madeS Fp; split <;> omega
theorem made_vld (s z n : Int) (h0 : 0 ≤ n) (h1 : n ≤ 1048576) : vldB (madeS s z n) (foldI z (n + 1)) = true := by
  have h2 := foldI_lo z (n + 1)
  have h3 := foldI_hi z (n + 1) (by omega)
  have h4 := madeS_fp s z n
  rw [vldB_iff]
  refine ⟨h2, by omega, h4.2, ?_⟩
  rcases Int.lt_or_le 0 (foldI z (n + 1)) with h | h
  · exact .inl h
  · exact .inr (madeS_zero (by omega))
end

/- Poly:
  The fingerprint as a plain function: a polynomial in Base modulo Prime; powers of Base; no program in sight.
-/
section
set_option linter.unusedVariables false
set_option linter.unusedSimpArgs false
set_option linter.unnecessarySimpa false

/-- one step of the sum -/
def stepZ (s z : Int) : Int := fadd (fmul s 747382712868975713) (z + 1)
/-- the fingerprint of a list of bytes -/
def sumZ (zs : List Int) : Int := zs.foldl stepZ 0
theorem sumZ_nil : sumZ [] = 0 := rfl
theorem sumZ_snoc (zs : List Int) (z : Int) : sumZ (zs ++ [z]) = stepZ (sumZ zs) z := by simp [sumZ, List.foldl_append]
theorem stepZ_fp (s z : Int) : Fp (stepZ s z) := fadd_fp _ _
theorem foldl_fp (zs : List Int) : ∀ s, Fp s → Fp (zs.foldl stepZ s) := by
  induction zs with
  | nil => exact fun s h => h
  | cons z zs ih => exact fun s _ => ih _ (stepZ_fp s z)
theorem sumZ_fp (zs : List Int) : Fp (sumZ zs) := foldl_fp zs 0 (by unfold Fp; omega)
theorem sumZ_take (zs : List Int) (k : Nat) (h : k < zs.length) : sumZ (zs.take (k + 1)) = stepZ (sumZ (zs.take k)) zs[k] := by
  rw [List.take_succ_eq_append_getElem h, sumZ_snoc]
end

/- Pow:
  Powers of Base modulo Prime as a plain function, and squaring.
-/
section
set_option linter.unusedVariables false
set_option linter.unusedSimpArgs false
set_option linter.unnecessarySimpa false

def powZ : Nat → Int
  | 0 => 1
  | n + 1 => fmul (powZ n) 747382712868975713
theorem powZ_fp : ∀ n, Fp (powZ n)
  | 0 => by unfold powZ Fp; omega
  | n + 1 => fmul_fp _ _
theorem powZ_one : powZ 1 = 747382712868975713 := by decide
theorem fmul_comm (a b : Int) : fmul a b = fmul b a := by unfold fmul; rw [Int.mul_comm]
theorem fmul_assoc (a b c : Int) : fmul (fmul a b) c = fmul a (fmul b c) := by
  unfold fmul
  rw [Int.mul_emod, Int.emod_emod_of_dvd _ (Int.dvd_refl _), ← Int.mul_emod, Int.mul_assoc, Int.mul_emod a (b * c % _), Int.emod_emod_of_dvd _ (Int.dvd_refl _), ← Int.mul_emod]
theorem fmul_one {a : Int} (h : Fp a) : fmul a 1 = a := by unfold fmul; obtain ⟨h0, h1⟩ := h; omega
theorem powZ_add (a b : Nat) : fmul (powZ a) (powZ b) = powZ (a + b) := by
  induction b with
  | zero => exact fmul_one (powZ_fp a)
  | succ b ih =>
    show fmul (powZ a) (fmul (powZ b) _) = fmul (powZ (a + b)) _
    rw [← fmul_assoc, ih]
theorem powZ_sq (i : Nat) : fmul (powZ (2 ^ i)) (powZ (2 ^ i)) = powZ (2 ^ (i + 1)) := by
  rw [powZ_add, Nat.pow_succ]; congr 1; omega
theorem mod_hit (n i : Nat) (h : n / 2 ^ i % 2 = 1) : n % 2 ^ (i + 1) = n % 2 ^ i + 2 ^ i := by
  rw [Nat.pow_succ, Nat.mod_mul, h]; omega
theorem mod_miss (n i : Nat) (h : n / 2 ^ i % 2 = 0) : n % 2 ^ (i + 1) = n % 2 ^ i := by
  rw [Nat.pow_succ, Nat.mod_mul, h]; omega
theorem powZ_hit (n i : Nat) (h : n / 2 ^ i % 2 = 1) : fmul (powZ (n % 2 ^ i)) (powZ (2 ^ i)) = powZ (n % 2 ^ (i + 1)) := by rw [powZ_add, mod_hit n i h]
theorem powZ_miss (n i : Nat) (h : n / 2 ^ i % 2 = 0) : powZ (n % 2 ^ i) = powZ (n % 2 ^ (i + 1)) := by rw [mod_miss n i h]
end

/- Ring:
  The laws of fingerprints as a ring modulo Prime: the fingerprint of a concatenation, Join is associative, Rest undoes it. Plain arithmetic.
-/
section
set_option linter.unusedVariables false
set_option linter.unusedSimpArgs false
set_option linter.unnecessarySimpa false

theorem emod_mul (x y : Int) : (x % 2305843009213693951 * y) % 2305843009213693951 = (x * y) % 2305843009213693951 := by
  have h : x % 2305843009213693951 * y = x * y - 2305843009213693951 * (x / 2305843009213693951 * y) := by
    rw [Int.emod_def, Int.sub_mul, Int.mul_assoc]
  rw [h]; omega
theorem mul_emod' (x y : Int) : (x * (y % 2305843009213693951)) % 2305843009213693951 = (x * y) % 2305843009213693951 := by
  rw [Int.mul_comm, emod_mul, Int.mul_comm]
theorem fassoc (a p b q c : Int) : fadd (fmul (fadd (fmul a p) b) q) c = fadd (fmul a (fmul p q)) (fadd (fmul b q) c) := by
  unfold fadd fmul
  rw [emod_mul, mul_emod', Int.add_mul, ← Int.mul_assoc]
  have h : (a * p) % 2305843009213693951 * q = a * p * q - 2305843009213693951 * (a * p / 2305843009213693951 * q) := by
    rw [Int.emod_def, Int.sub_mul, Int.mul_assoc 2305843009213693951]
  rw [h]
  generalize a * p * q = u; generalize a * p / 2305843009213693951 * q = v; generalize b * q = t
  omega
theorem fadd_zero {a : Int} (h : Fp a) : fadd a 0 = a := by unfold fadd; unfold Fp at h; omega
theorem zero_fadd {a : Int} (h : Fp a) : fadd 0 a = a := by unfold fadd; unfold Fp at h; omega
theorem zero_fmul (a : Int) : fmul 0 a = 0 := by unfold fmul; simp
theorem fsub_fadd {t b : Int} (h : Fp b) : fsub (fadd t b) t = b := by unfold fsub fadd; unfold Fp at h; omega
theorem fadd_fsub {w t : Int} (h : Fp w) : fadd t (fsub w t) = w := by unfold fsub fadd; unfold Fp at h; omega
theorem stepZ_eq (s z : Int) : stepZ s z = fadd (fmul s 747382712868975713) (z + 1) := rfl

theorem sumZ_append (x y : List Int) : sumZ (x ++ y) = fadd (fmul (sumZ x) (powZ y.length)) (sumZ y) := by
  suffices h : ∀ (n : Nat) (y : List Int), y.length = n → sumZ (x ++ y) = fadd (fmul (sumZ x) (powZ y.length)) (sumZ y) from h y.length y rfl
  intro n
  induction n with
  | zero =>
    intro y hy
    have : y = [] := List.eq_nil_of_length_eq_zero hy
    subst this
    rw [List.append_nil, sumZ_nil, List.length_nil]
    show sumZ x = fadd (fmul (sumZ x) 1) 0
    rw [fmul_one (sumZ_fp x), fadd_zero (sumZ_fp x)]
  | succ n ih =>
    intro y hy
    have hne : y ≠ [] := fun h => by rw [h] at hy; cases hy
    obtain ⟨y', z, rfl⟩ : ∃ y' z, y = y' ++ [z] := ⟨_, _, (List.dropLast_concat_getLast hne).symm⟩
    rw [List.length_append, List.length_singleton] at hy
    rw [← List.append_assoc, sumZ_snoc, sumZ_snoc, ih y' (by omega), stepZ_eq, fassoc, List.length_append, List.length_singleton, ← powZ_add, powZ_one, stepZ_eq]

/-- the ID of a byte string is valid up to MaxContent -/
theorem vld_sum {zs : List Int} (h : zs.length ≤ 1048576) : vldB (sumZ zs) zs.length = true := by
  refine vldB_iff.2 ⟨by omega, by omega, (sumZ_fp zs).2, ?_⟩
  cases zs with
  | nil => right; rfl
  | cons z t => left; simp only [List.length_cons]; omega
end

/- RollLaws:
  The rolling window as plain lists: what a push does to the window, to its fingerprint, and to the ring in which the window's bytes stand.
-/
section
set_option linter.unusedVariables false
set_option linter.unusedSimpArgs false
set_option linter.unnecessarySimpa false

/-- the window of at most n bytes behind a push -/
def pushW (n : Nat) (ws : List Int) (b : Int) : List Int := if ws.length < n then ws ++ [b] else (ws ++ [b]).drop 1
theorem pushW_lt {n : Nat} {ws : List Int} {b : Int} (h : ws.length < n) : pushW n ws b = ws ++ [b] := if_pos h
theorem pushW_ge {n : Nat} {ws : List Int} {b : Int} (h : n ≤ ws.length) : pushW n ws b = (ws ++ [b]).drop 1 := if_neg (by omega)
theorem pushW_len_lt {n : Nat} {ws : List Int} {b : Int} (h : ws.length < n) : (pushW n ws b).length = ws.length + 1 := by rw [pushW_lt h]; simp
theorem pushW_len_ge {n : Nat} {ws : List Int} {b : Int} (h : n ≤ ws.length) : (pushW n ws b).length = ws.length := by rw [pushW_ge h]; simp
theorem pushW_le {n : Nat} {ws : List Int} {b : Int} (h : ws.length ≤ n) (h1 : 1 ≤ n) : (pushW n ws b).length ≤ n := by
  rcases Nat.lt_or_ge ws.length n with h2 | h2
  · rw [pushW_len_lt h2]; omega
  · rw [pushW_len_ge h2]; omega

/-- the last n elements -/
def lastN (n : Nat) (zs : List Int) : List Int := zs.drop (zs.length - n)
theorem lastN_nil (n : Nat) : lastN n [] = [] := by simp [lastN]
theorem lastN_len (n : Nat) (zs : List Int) : (lastN n zs).length = min n zs.length := by simp [lastN]; omega
theorem lastN_le (n : Nat) (zs : List Int) : (lastN n zs).length ≤ n := by rw [lastN_len]; omega
theorem lastN_all {n : Nat} {zs : List Int} (h : zs.length ≤ n) : lastN n zs = zs := by unfold lastN; rw [Nat.sub_eq_zero_of_le h, List.drop_zero]
theorem lastN_push (n : Nat) (zs : List Int) (b : Int) : pushW n (lastN n zs) b = lastN n (zs ++ [b]) := by
  rcases Nat.lt_or_ge zs.length n with h | h
  · rw [lastN_all (by omega), pushW_lt h, lastN_all (by simp; omega)]
  · rw [pushW_ge (by rw [lastN_len]; omega)]
    unfold lastN
    rw [List.length_append, List.length_singleton, ← List.drop_append_of_le_length (by omega), List.drop_drop]
    congr 1
    omega
theorem foldl_push (n : Nat) (xs zs : List Int) : xs.foldl (pushW n) (lastN n zs) = lastN n (zs ++ xs) := by
  induction xs generalizing zs with
  | nil => simp
  | cons x xs ih => rw [List.foldl_cons, lastN_push, ih, List.append_assoc]; rfl
theorem lastN_take_push (n : Nat) (zs : List Int) (k : Nat) (h : k < zs.length) : pushW n (lastN n (zs.take k)) zs[k] = lastN n (zs.take (k + 1)) := by
  rw [lastN_push, List.take_succ_eq_append_getElem h]
theorem lastN_append {n : Nat} {xs ys : List Int} (h : n ≤ ys.length) : lastN n (xs ++ ys) = lastN n ys := by
  unfold lastN
  rw [List.length_append, List.drop_append, List.drop_eq_nil_of_le (by omega), List.nil_append]
  congr 1; omega
/-- pushing at least n bytes makes the window of them alone, whatever it was -/
theorem foldl_push_all {n : Nat} {xs ws : List Int} (hw : ws.length ≤ n) (h : n ≤ xs.length) : xs.foldl (pushW n) ws = lastN n xs := by
  have h1 := foldl_push n xs ws
  rw [lastN_all hw] at h1
  rw [h1, lastN_append h]

/-- the fingerprint of one byte; of a byte ahead of others -/
theorem sumZ_one {z : Int} (h0 : 0 ≤ z) (h1 : z ≤ 255) : sumZ [z] = z + 1 := by
  show stepZ 0 z = z + 1
  rw [stepZ_eq, zero_fmul]; unfold fadd; omega
theorem sumZ_cons {z : Int} (ws : List Int) (h0 : 0 ≤ z) (h1 : z ≤ 255) : sumZ (z :: ws) = fadd (fmul (z + 1) (powZ ws.length)) (sumZ ws) := by
  rw [show z :: ws = [z] ++ ws from rfl, sumZ_append, sumZ_one h0 h1]
/-- .. without its oldest byte -/
theorem sumZ_drop {z : Int} (ws : List Int) (h0 : 0 ≤ z) (h1 : z ≤ 255) : fsub (sumZ (z :: ws)) (fmul (z + 1) (powZ ws.length)) = sumZ ws := by
  rw [sumZ_cons ws h0 h1, fsub_fadd (sumZ_fp ws)]

/-- i + 1, 0 at n -/
theorem mod_next {i n : Nat} (h : i < n) : (i + 1) % n = if i + 1 = n then 0 else i + 1 := by
  split
  · rename_i e; rw [e, Nat.mod_self]
  · exact Nat.mod_eq_of_lt (by omega)
/-- the place of the window's byte j: nx is the next one's, c bytes are in it -/
def ringAt (n nx c j : Nat) : Nat := if nx + j < c then nx + n + j - c else if nx + j - c < n then nx + j - c else nx + j - c - n
/-- the ring holds the window ws of at most n bytes; nx is the next byte's place -/
structure RingOk (ring : List Int) (n nx : Nat) (ws : List Int) : Prop where
  len : ring.length = 64
  lo : 1 ≤ n
  hi : n ≤ 64
  next : nx < n
  le : ws.length ≤ n
  part : ws.length < n → nx = ws.length
  at_ : ∀ j, j < ws.length → ring[if ws.length < n then j else if nx + j < n then nx + j else nx + j - n]? = ws[j]?
  byte : ∀ z ∈ ring, 0 ≤ z ∧ z ≤ 255

theorem RingOk.empty {ring : List Int} {n : Nat} (h1 : ring.length = 64) (h2 : 1 ≤ n) (h3 : n ≤ 64) (hb : ∀ z ∈ ring, 0 ≤ z ∧ z ≤ 255) : RingOk ring n 0 [] :=
  ⟨h1, h2, h3, by omega, by simp, fun _ => rfl, fun j hj => by simp at hj, hb⟩
theorem RingOk.elem {ring : List Int} {n nx : Nat} {ws : List Int} (h : RingOk ring n nx ws) : ∀ z ∈ ws, 0 ≤ z ∧ z ≤ 255 := by
  intro z hz
  obtain ⟨j, hj, rfl⟩ := List.getElem_of_mem hz
  have h1 := h.at_ j hj
  rw [List.getElem?_eq_getElem hj] at h1
  exact h.byte _ (List.mem_of_getElem? h1)
theorem mem_set_byte {ring : List Int} {i : Nat} {b : Int} (h : ∀ z ∈ ring, 0 ≤ z ∧ z ≤ 255) (h0 : 0 ≤ b) (h1 : b ≤ 255) : ∀ z ∈ ring.set i b, 0 ≤ z ∧ z ≤ 255 := by
  intro z hz
  rcases List.mem_or_eq_of_mem_set hz with h2 | h2
  · exact h z h2
  · omega
theorem RingOk.push_lt {ring : List Int} {n nx : Nat} {ws : List Int} {b : Int} (h : RingOk ring n nx ws) (hl : ws.length < n) (h0 : 0 ≤ b) (h1 : b ≤ 255) :
    RingOk (ring.set nx b) n ((nx + 1) % n) (pushW n ws b) := by
  have hp := h.part hl
  have h64 := h.len
  have hhi := h.hi
  refine ⟨by simpa using h.len, h.lo, h.hi, Nat.mod_lt _ (by omega), pushW_le h.le h.lo, fun hh => ?_, fun j hj => ?_, mem_set_byte h.byte h0 h1⟩
  · rw [pushW_len_lt hl] at hh ⊢
    rw [hp, Nat.mod_eq_of_lt hh]
  · rw [pushW_len_lt hl] at hj ⊢
    rw [pushW_lt hl]
    have hidx : (if ws.length + 1 < n then j else if (nx + 1) % n + j < n then (nx + 1) % n + j else (nx + 1) % n + j - n) = j := by
      rw [mod_next (by omega)]
      repeat' split
      all_goals omega
    rw [hidx]
    by_cases e : j = ws.length
    · subst e
      rw [List.getElem?_append_right (Nat.le_refl _), Nat.sub_self, hp, List.getElem?_set_self (by omega)]
      rfl
    · have hj' : j < ws.length := by omega
      rw [List.getElem?_append_left hj', List.getElem?_set_ne (by omega)]
      have := h.at_ j hj'
      rwa [if_pos hl] at this
theorem RingOk.push_ge {ring : List Int} {n nx : Nat} {ws : List Int} {b : Int} (h : RingOk ring n nx ws) (hl : ws.length = n) (h0 : 0 ≤ b) (h1 : b ≤ 255) :
    RingOk (ring.set nx b) n ((nx + 1) % n) (pushW n ws b) := by
  have h64 := h.len
  have hhi := h.hi
  have hnx := h.next
  refine ⟨by simpa using h.len, h.lo, h.hi, Nat.mod_lt _ (by omega), pushW_le h.le h.lo, fun hh => ?_, fun j hj => ?_, mem_set_byte h.byte h0 h1⟩
  · rw [pushW_len_ge (by omega)] at hh; omega
  · rw [pushW_len_ge (by omega)] at hj ⊢
    rw [pushW_ge (by omega), if_neg (by omega), List.getElem?_drop]
    by_cases e : j + 1 = n
    · have hidx : (if (nx + 1) % n + j < n then (nx + 1) % n + j else (nx + 1) % n + j - n) = nx := by
        rw [mod_next (by omega)]
        repeat' split
        all_goals omega
      rw [hidx, List.getElem?_set_self (by omega), List.getElem?_append_right (by omega), show 1 + j - ws.length = 0 by omega]
      rfl
    · have hidx : (if (nx + 1) % n + j < n then (nx + 1) % n + j else (nx + 1) % n + j - n) = if nx + (j + 1) < n then nx + (j + 1) else nx + (j + 1) - n := by
        rw [mod_next (by omega)]
        repeat' split
        all_goals omega
      rw [hidx]
      have := h.at_ (j + 1) (by omega)
      rw [if_neg (by omega)] at this
      rw [List.getElem?_append_left (by omega), Nat.add_comm 1 j, ← this, List.getElem?_set_ne (by split <;> omega)]
theorem RingOk.oldest {ring : List Int} {n nx : Nat} {ws : List Int} (h : RingOk ring n nx ws) (hl : ws.length = n) : ring[nx]? = ws[0]? := by
  have h1 := h.lo
  have h2 := h.next
  have := h.at_ 0 (by omega)
  rwa [if_neg (by omega), if_pos (by omega), Nat.add_zero] at this
end

/- CutLaws:
  Chunks as plain lists: where the first chunk of a list of bytes ends; the lengths of all chunks; what follows from it. No program in sight.
-/
section
set_option linter.unusedVariables false
set_option linter.unusedSimpArgs false
set_option linter.unnecessarySimpa false

/-- parameters: the least and the greatest length, the window, the mask -/
structure CutZ where
  mn : Nat
  mx : Nat
  wn : Nat
  mask : Int
structure CutZ.Ok (c : CutZ) : Prop where
  w1 : 1 ≤ c.wn
  w64 : c.wn ≤ 64
  wm : c.wn ≤ c.mn
  mm : c.mn ≤ c.mx
  mx : c.mx ≤ 8192
  m0 : 0 ≤ c.mask
  m1 : c.mask < 18446744073709551616
/-- are all bits of the mask 0 in s? -/
def maskZ (m s : Int) : Bool := decide (bits .and .u64 m s = 0)
/-- is a chunk of length L complete, whose last bytes have the fingerprint s? -/
def stopZ (c : CutZ) (L : Nat) (s : Int) : Bool := decide (c.mn ≤ L) && (decide (c.mx ≤ L) || maskZ c.mask s)
/-- .. of the first e bytes of l -/
def endL (c : CutZ) (l : List Int) (e : Nat) : Bool := stopZ c e (sumZ (lastN c.wn (l.take e)))
theorem stopZ_short {c : CutZ} {L : Nat} {s : Int} (h : L < c.mn) : stopZ c L s = false := by
  unfold stopZ; rw [decide_eq_false (by omega)]; rfl
theorem endL_short {c : CutZ} {l : List Int} {e : Nat} (h : e < c.mn) : endL c l e = false := stopZ_short h
theorem endL_max {c : CutZ} (ok : c.Ok) {l : List Int} {e : Nat} (h : c.mx ≤ e) : endL c l e = true := by
  have := ok.mm
  unfold endL stopZ; rw [decide_eq_true (by omega : c.mn ≤ e), decide_eq_true h]; rfl
theorem endL_take {c : CutZ} {l l' : List Int} {e : Nat} (h : l.take e = l'.take e) : endL c l e = endL c l' e := by unfold endL; rw [h]

/-- the last bytes of a list's end are the last bytes of the list -/
theorem lastN_suffix {n : Nat} (p l : List Int) (h : n ≤ l.length) : lastN n (p ++ l) = lastN n l := lastN_append h
/-- a chunk's test looks at the chunk alone, whatever was ahead of it -/
theorem stop_chunk {c : CutZ} (ok : c.Ok) (p l : List Int) : stopZ c l.length (sumZ (lastN c.wn (p ++ l))) = endL c l l.length := by
  unfold endL
  rw [List.take_length]
  rcases Nat.lt_or_ge l.length c.mn with h | h
  · rw [stopZ_short h, stopZ_short h]
  · rw [lastN_suffix p l (by have := ok.wm; omega)]

/-- where the first chunk of l ends, if it is complete -/
def nxtL (c : CutZ) (l : List Int) : Option Nat := ((List.range l.length).map (· + 1)).find? (endL c l)
theorem nxtL_some {c : CutZ} {l : List Int} {e : Nat} : nxtL c l = some e ↔ (1 ≤ e ∧ e ≤ l.length ∧ endL c l e = true ∧ ∀ e', 1 ≤ e' → e' < e → endL c l e' = false) := by
  unfold nxtL
  rw [List.find?_eq_some_iff_getElem]
  constructor
  · rintro ⟨h1, i, hi, he, hall⟩
    simp only [List.length_map, List.length_range] at hi
    simp only [List.getElem_map, List.getElem_range] at he
    subst he
    refine ⟨by omega, by omega, h1, fun e' h0 h2 => ?_⟩
    have := hall (e' - 1) (by omega)
    simp only [List.getElem_map, List.getElem_range] at this
    rw [show e' - 1 + 1 = e' by omega] at this
    simpa using this
  · rintro ⟨h0, h1, h2, h3⟩
    refine ⟨h2, e - 1, by simp; omega, by simp; omega, fun j hj => ?_⟩
    simp only [List.getElem_map, List.getElem_range]
    rw [h3 (j + 1) (by omega) (by omega)]
    rfl
theorem nxtL_none {c : CutZ} {l : List Int} : nxtL c l = none ↔ ∀ e, 1 ≤ e → e ≤ l.length → endL c l e = false := by
  unfold nxtL
  rw [List.find?_eq_none]
  constructor
  · intro h e h0 h1
    have := h e (List.mem_map.2 ⟨e - 1, List.mem_range.2 (by omega), by omega⟩)
    simpa using this
  · intro h e he
    obtain ⟨i, hi, rfl⟩ := List.mem_map.1 he
    have := List.mem_range.1 hi
    rw [h (i + 1) (by omega) (by omega)]
    simp
theorem nxtL_bd {c : CutZ} (ok : c.Ok) {l : List Int} {e : Nat} (h : nxtL c l = some e) : c.mn ≤ e ∧ e ≤ c.mx ∧ e ≤ l.length ∧ 1 ≤ e := by
  obtain ⟨h0, h1, h2, h3⟩ := nxtL_some.1 h
  have a1 := ok.mm
  have a2 := ok.wm
  have a3 := ok.w1
  refine ⟨?_, ?_, h1, h0⟩
  · rcases Nat.lt_or_ge e c.mn with h | h
    · rw [endL_short h] at h2; cases h2
    · exact h
  · rcases Nat.lt_or_ge c.mx e with h | h
    · have := h3 c.mx (by omega) h
      rw [endL_max ok (Nat.le_refl _)] at this
      cases this
    · exact h
theorem nxtL_none_lt {c : CutZ} (ok : c.Ok) {l : List Int} (h : nxtL c l = none) : l.length < c.mx := by
  have a1 := ok.mm
  have a2 := ok.wm
  have a3 := ok.w1
  rcases Nat.lt_or_ge l.length c.mx with h' | h'
  · exact h'
  · have := nxtL_none.1 h c.mx (by omega) h'
    rw [endL_max ok (Nat.le_refl _)] at this
    cases this
/-- lists that agree up to the chunk's end have the same first chunk -/
theorem nxtL_agree {c : CutZ} {l l' : List Int} {e : Nat} (h : nxtL c l = some e) (hl : e ≤ l'.length) (ht : l.take e = l'.take e) : nxtL c l' = some e := by
  obtain ⟨h0, h1, h2, h3⟩ := nxtL_some.1 h
  have hk : ∀ k, k ≤ e → endL c l' k = endL c l k := fun k hk => endL_take (by
    have := congrArg (List.take k) ht
    rw [List.take_take, List.take_take, Nat.min_eq_left hk] at this
    exact this.symm)
  refine nxtL_some.2 ⟨h0, hl, by rw [hk e (Nat.le_refl _)]; exact h2, fun e' a b => by rw [hk e' (by omega)]; exact h3 e' a b⟩
theorem nxtL_append {c : CutZ} {l r : List Int} {e : Nat} (h : nxtL c l = some e) : nxtL c (l ++ r) = some e := by
  have h1 := (nxtL_some.1 h).2.1
  exact nxtL_agree h (by rw [List.length_append]; omega) (by rw [List.take_append_of_le_length h1])
/-- one byte more -/
theorem nxtL_snoc {c : CutZ} {l : List Int} {b : Int} (h : nxtL c l = none) : nxtL c (l ++ [b]) = if endL c (l ++ [b]) (l.length + 1) = true then some (l.length + 1) else none := by
  have hk : ∀ k, k ≤ l.length → endL c (l ++ [b]) k = endL c l k := fun k hk => endL_take (List.take_append_of_le_length hk)
  split
  · rename_i he
    exact nxtL_some.2 ⟨by omega, by simp, he, fun e' a b' => by rw [hk e' (by omega)]; exact nxtL_none.1 h e' a (by omega)⟩
  · rename_i he
    refine nxtL_none.2 fun e a b' => ?_
    rw [List.length_append, List.length_singleton] at b'
    rcases Nat.lt_or_ge l.length e with h2 | h2
    · rw [show e = l.length + 1 by omega]; simpa using he
    · rw [hk e h2]; exact nxtL_none.1 h e a h2
theorem nxtL_nil {c : CutZ} : nxtL c [] = none := rfl

/-- the lengths of the chunks of l -/
def lensF (c : CutZ) : Nat → List Int → List Nat
  | 0, _ => []
  | f + 1, l => if l = [] then [] else match nxtL c l with
    | some e => e :: lensF c f (l.drop e)
    | none => [l.length]
def lensZ (c : CutZ) (l : List Int) : List Nat := lensF c l.length l
theorem lensF_fuel {c : CutZ} (ok : c.Ok) : ∀ (f g : Nat) (l : List Int), l.length ≤ f → l.length ≤ g → lensF c f l = lensF c g l := by
  intro f
  induction f with
  | zero =>
    intro g l hf hg
    have : l = [] := List.eq_nil_of_length_eq_zero (by omega)
    subst this
    cases g <;> simp [lensF]
  | succ f ih =>
    intro g l hf hg
    cases g with
    | zero =>
      have : l = [] := List.eq_nil_of_length_eq_zero (by omega)
      subst this
      simp [lensF]
    | succ g =>
      simp only [lensF]
      by_cases hl : l = []
      · rw [if_pos hl, if_pos hl]
      · rw [if_neg hl, if_neg hl]
        cases h : nxtL c l with
        | none => rfl
        | some e =>
          have := nxtL_bd ok h
          simp only
          rw [ih g (l.drop e) (by rw [List.length_drop]; omega) (by rw [List.length_drop]; omega)]
theorem lensZ_nil {c : CutZ} : lensZ c [] = [] := rfl
theorem lensZ_some {c : CutZ} (ok : c.Ok) {l : List Int} {e : Nat} (h : nxtL c l = some e) : lensZ c l = e :: lensZ c (l.drop e) := by
  have hb := nxtL_bd ok h
  have hl : l ≠ [] := fun k => by subst k; simp at hb; omega
  unfold lensZ
  cases hn : l.length with
  | zero => exact absurd (List.eq_nil_of_length_eq_zero hn) hl
  | succ n =>
    simp only [lensF]
    rw [if_neg hl, h]
    simp only
    rw [lensF_fuel ok n (l.drop e).length (l.drop e) (by rw [List.length_drop]; omega) (Nat.le_refl _)]
theorem lensZ_none {c : CutZ} {l : List Int} (hl : l ≠ []) (h : nxtL c l = none) : lensZ c l = [l.length] := by
  unfold lensZ
  cases hn : l.length with
  | zero => exact absurd (List.eq_nil_of_length_eq_zero hn) hl
  | succ n => simp only [lensF]; rw [if_neg hl, h, hn]

/-- induction over the chunks -/
theorem chunk_rec {c : CutZ} (ok : c.Ok) {P : List Int → Prop} (h0 : P []) (h1 : ∀ l, l ≠ [] → nxtL c l = none → P l) (h2 : ∀ l e, nxtL c l = some e → P (l.drop e) → P l) : ∀ l, P l := by
  suffices h : ∀ n l, l.length = n → P l from fun l => h l.length l rfl
  intro n
  induction n using Nat.strongRecOn with
  | _ n ih =>
    intro l hl
    by_cases hn : l = []
    · subst hn; exact h0
    · cases h : nxtL c l with
      | none => exact h1 l hn h
      | some e =>
        have hb := nxtL_bd ok h
        exact h2 l e h (ih (l.drop e).length (by rw [List.length_drop]; omega) _ rfl)

/-- the ends: sums of lengths -/
def psums : Nat → List Nat → List Nat
  | _, [] => []
  | s, n :: ns => (s + n) :: psums (s + n) ns
/-- the end offsets of the chunks -/
def endsZ (c : CutZ) (l : List Int) : List Nat := psums 0 (lensZ c l)
theorem psums_length (ns : List Nat) : ∀ s, (psums s ns).length = ns.length := by
  induction ns with
  | nil => exact fun _ => rfl
  | cons n ns ih => intro s; simp [psums, ih]
theorem psums_shift (ns : List Nat) : ∀ s t, psums (s + t) ns = (psums s ns).map (· + t) := by
  induction ns with
  | nil => exact fun _ _ => rfl
  | cons n ns ih =>
    intro s t
    simp only [psums, List.map_cons]
    rw [show s + t + n = s + n + t by omega, ih (s + n) t]
theorem psums_append (xs ys : List Nat) : ∀ s, psums s (xs ++ ys) = psums s xs ++ psums (s + xs.sum) ys := by
  induction xs with
  | nil => intro s; simp [psums]
  | cons n ns ih => intro s; simp only [List.cons_append, psums, List.sum_cons]; rw [ih, Nat.add_assoc]
theorem endsZ_some {c : CutZ} (ok : c.Ok) {l : List Int} {e : Nat} (h : nxtL c l = some e) : endsZ c l = e :: (endsZ c (l.drop e)).map (· + e) := by
  unfold endsZ
  rw [lensZ_some ok h]
  simp only [psums, Nat.zero_add]
  have := psums_shift (lensZ c (l.drop e)) 0 e
  rw [Nat.zero_add] at this
  rw [this]
theorem lensZ_sum {c : CutZ} (ok : c.Ok) : ∀ l, (lensZ c l).sum = l.length := by
  refine chunk_rec ok rfl (fun l hl h => ?_) (fun l e h ih => ?_)
  · rw [lensZ_none hl h]; simp
  · have := nxtL_bd ok h
    rw [lensZ_some ok h, List.sum_cons, ih, List.length_drop]; omega
theorem lensZ_pos {c : CutZ} (ok : c.Ok) : ∀ l, ∀ n ∈ lensZ c l, 1 ≤ n ∧ n ≤ c.mx := by
  refine chunk_rec ok (by simp [lensZ_nil]) (fun l hl h n hn => ?_) (fun l e h ih n hn => ?_)
  · rw [lensZ_none hl h, List.mem_singleton] at hn
    have := nxtL_none_lt ok h
    have : 0 < l.length := List.length_pos_iff.2 hl
    omega
  · rw [lensZ_some ok h, List.mem_cons] at hn
    rcases hn with rfl | hn
    · have := nxtL_bd ok h; omega
    · exact ih n hn
/-- all but the last are at least mn -/
theorem lensZ_min {c : CutZ} (ok : c.Ok) : ∀ l, ∀ i, i + 1 < (lensZ c l).length → ∀ n, (lensZ c l)[i]? = some n → c.mn ≤ n := by
  refine chunk_rec ok (by simp [lensZ_nil]) (fun l hl h i hi => ?_) (fun l e h ih i hi n hn => ?_)
  · rw [lensZ_none hl h] at hi; simp at hi
  · rw [lensZ_some ok h] at hi hn
    cases i with
    | zero => simp at hn; subst hn; exact (nxtL_bd ok h).1
    | succ i => exact ih i (by simpa using hi) n (by simpa using hn)
theorem endsZ_length {c : CutZ} (l : List Int) : (endsZ c l).length = (lensZ c l).length := psums_length _ _
end

/- CutMore:
  What the chunks of one list say of the chunks of another: suffixes, common beginnings, common tails, wider masks, how many there are. No program in sight.
-/
section
set_option linter.unusedVariables false
set_option linter.unusedSimpArgs false
set_option linter.unnecessarySimpa false

theorem endsZ_nil {c : CutZ} : endsZ c [] = [] := rfl
theorem endsZ_none {c : CutZ} {l : List Int} (hl : l ≠ []) (h : nxtL c l = none) : endsZ c l = [l.length] := by
  unfold endsZ; rw [lensZ_none hl h]; simp [psums]
theorem endsZ_bd {c : CutZ} (ok : c.Ok) : ∀ l, ∀ e ∈ endsZ c l, 1 ≤ e ∧ e ≤ l.length := by
  refine chunk_rec ok (by simp [endsZ_nil]) (fun l hl h e he => ?_) (fun l e h ih e' he => ?_)
  · rw [endsZ_none hl h, List.mem_singleton] at he
    have : 0 < l.length := List.length_pos_iff.2 hl
    omega
  · have hb := nxtL_bd ok h
    rw [endsZ_some ok h, List.mem_cons] at he
    rcases he with rfl | he
    · omega
    · obtain ⟨x, hx, rfl⟩ := List.mem_map.1 he
      have := ih x hx
      rw [List.length_drop] at this
      omega
theorem endsZ_ne {c : CutZ} (ok : c.Ok) {l : List Int} (hl : l ≠ []) : 0 < (endsZ c l).length := by
  cases h : nxtL c l with
  | none => rw [endsZ_none hl h]; simp
  | some e => rw [endsZ_some ok h]; simp

/-- from a boundary on the ends are those of what follows it -/
theorem endsZ_suffix {c : CutZ} (ok : c.Ok) : ∀ l, ∀ k s, (endsZ c l)[k]? = some s → (endsZ c l).drop (k + 1) = (endsZ c (l.drop s)).map (· + s) := by
  refine chunk_rec ok (by simp [endsZ_nil]) (fun l hl h k s hk => ?_) (fun l e h ih k s hk => ?_)
  · rw [endsZ_none hl h] at hk ⊢
    cases k with
    | zero => simp at hk; subst hk; simp [endsZ_nil]
    | succ k => simp at hk
  · rw [endsZ_some ok h] at hk ⊢
    cases k with
    | zero => simp at hk; subst hk; simp
    | succ k =>
      rw [List.getElem?_cons_succ, List.getElem?_map] at hk
      cases hx : (endsZ c (l.drop e))[k]? with
      | none => rw [hx] at hk; simp at hk
      | some x =>
        rw [hx] at hk
        simp at hk
        subst hk
        have := ih k x hx
        rw [List.drop_succ_cons, ← List.map_drop, this, List.map_map, List.drop_drop, Nat.add_comm e x]
        congr 1
        funext y
        simp; omega

/-- lists with a common beginning have the same ends in it -/
theorem endsZ_common {c : CutZ} (ok : c.Ok) : ∀ (i : Nat) (h r1 r2 : List Int) (e : Nat), (endsZ c (h ++ r1))[i]? = some e → (e < h.length ∨ (e ≤ h.length ∧ i + 1 < (endsZ c (h ++ r1)).length)) → (endsZ c (h ++ r2))[i]? = some e := by
  intro i
  induction i with
  | zero =>
    intro h r1 r2 e he hor
    cases hn : nxtL c (h ++ r1) with
    | none =>
      by_cases hl : h ++ r1 = []
      · rw [hl, endsZ_nil] at he; simp at he
      · rw [endsZ_none hl hn] at he hor
        simp at he hor
        omega
    | some e0 =>
      rw [endsZ_some ok hn] at he
      simp at he
      subst he
      have hle : e0 ≤ h.length := by omega
      have : nxtL c (h ++ r2) = some e0 := nxtL_agree hn (by rw [List.length_append]; omega) (by rw [List.take_append_of_le_length hle, List.take_append_of_le_length hle])
      rw [endsZ_some ok this]; rfl
  | succ i ih =>
    intro h r1 r2 e he hor
    cases hn : nxtL c (h ++ r1) with
    | none =>
      by_cases hl : h ++ r1 = []
      · rw [hl, endsZ_nil] at he; simp at he
      · rw [endsZ_none hl hn] at he; simp at he
    | some e0 =>
      have hE := endsZ_some ok hn
      rw [hE] at he hor
      rw [List.getElem?_cons_succ, List.getElem?_map] at he
      cases hx : (endsZ c ((h ++ r1).drop e0))[i]? with
      | none => rw [hx] at he; simp at he
      | some x =>
        rw [hx] at he
        simp at he
        subst he
        have hle : e0 ≤ h.length := by omega
        have hn2 : nxtL c (h ++ r2) = some e0 := nxtL_agree hn (by rw [List.length_append]; omega) (by rw [List.take_append_of_le_length hle, List.take_append_of_le_length hle])
        rw [List.drop_append_of_le_length hle] at hx
        rw [List.length_cons, List.length_map, List.drop_append_of_le_length hle] at hor
        have := ih (h.drop e0) r1 r2 x hx (by rw [List.length_drop]; omega)
        rw [endsZ_some ok hn2, List.getElem?_cons_succ, List.getElem?_map, List.drop_append_of_le_length hle, this]
        rfl
/-- a longer list has at least as many chunks -/
theorem endsZ_more {c : CutZ} (ok : c.Ok) : ∀ (l r : List Int), (endsZ c l).length ≤ (endsZ c (l ++ r)).length := by
  intro l r
  revert r
  refine chunk_rec (P := fun l => ∀ r, (endsZ c l).length ≤ (endsZ c (l ++ r)).length) ok (fun r => by simp [endsZ_nil]) (fun l hl h r => ?_) (fun l e h ih r => ?_) l
  · rw [endsZ_none hl h]
    have := endsZ_ne ok (l := l ++ r) (by simp [hl])
    simp only [List.length_singleton]; omega
  · have hb := nxtL_bd ok h
    rw [endsZ_some ok h, endsZ_some ok (nxtL_append (r := r) h), List.drop_append_of_le_length hb.2.2.1]
    have := ih r
    simpa using this

/-- is p a boundary? -/
def bdZ (c : CutZ) (l : List Int) (p : Nat) : Prop := p = 0 ∨ p ∈ endsZ c l
theorem mem_suffix {c : CutZ} (ok : c.Ok) : ∀ l, ∀ s ∈ endsZ c l, ∀ q, s < q → (q ∈ endsZ c l ↔ q - s ∈ endsZ c (l.drop s)) := by
  refine chunk_rec ok (by simp [endsZ_nil]) (fun l hl h s hs q hq => ?_) (fun l e h ih s hs q hq => ?_)
  · rw [endsZ_none hl h, List.mem_singleton] at hs
    subst hs
    rw [endsZ_none hl h, List.drop_length, endsZ_nil]
    simp; omega
  · rw [endsZ_some ok h] at hs ⊢
    have key : ∀ q, e < q → (q ∈ e :: (endsZ c (l.drop e)).map (· + e) ↔ q - e ∈ endsZ c (l.drop e)) := fun q hq => by
      rw [List.mem_cons, List.mem_map]
      constructor
      · rintro (h | ⟨x, hx, rfl⟩)
        · omega
        · simpa using hx
      · intro h
        exact .inr ⟨q - e, h, by omega⟩
    rcases List.mem_cons.1 hs with rfl | hs
    · exact key q hq
    · obtain ⟨x, hx, rfl⟩ := List.mem_map.1 hs
      rw [key q (by omega), ih x hx (q - e) (by omega), List.drop_drop, Nat.add_comm e x, show q - e - x = q - (x + e) by omega]
theorem bdZ_suffix {c : CutZ} (ok : c.Ok) {l : List Int} {s q : Nat} (h : bdZ c l s) (hq : s ≤ q) : bdZ c l q ↔ bdZ c (l.drop s) (q - s) := by
  rcases Nat.lt_or_ge s q with hlt | hge
  · rcases h with rfl | h
    · simp
    · unfold bdZ
      rw [mem_suffix ok l s h q hlt]
      constructor
      · rintro (h1 | h1)
        · omega
        · exact .inr h1
      · rintro (h1 | h1)
        · omega
        · exact .inr h1
  · obtain rfl : q = s := by omega
    constructor
    · intro _; left; omega
    · intro _; exact h
/-- from a place of a common tail on at which both have a boundary the boundaries are the same -/
theorem bdZ_meets {c : CutZ} (ok : c.Ok) {a b t : List Int} {p q : Nat} (ha : bdZ c (a ++ t) (p + a.length)) (hb : bdZ c (b ++ t) (p + b.length)) (hq : p ≤ q) :
    bdZ c (a ++ t) (q + a.length) ↔ bdZ c (b ++ t) (q + b.length) := by
  have da : (a ++ t).drop (p + a.length) = t.drop p := by rw [Nat.add_comm, ← List.drop_drop, List.drop_left]
  have db : (b ++ t).drop (p + b.length) = t.drop p := by rw [Nat.add_comm, ← List.drop_drop, List.drop_left]
  rw [bdZ_suffix ok ha (by omega), bdZ_suffix ok hb (by omega), da, db, show q + a.length - (p + a.length) = q - p by omega, show q + b.length - (p + b.length) = q - p by omega]

/-- how many chunks there are -/
theorem lens_le_max {c : CutZ} (ok : c.Ok) (l : List Int) : l.length ≤ (endsZ c l).length * c.mx := by
  rw [endsZ_length, ← lensZ_sum ok l]
  have := lensZ_pos ok l
  generalize lensZ c l = ls at *
  induction ls with
  | nil => simp
  | cons n ns ih =>
    have h1 := this n (by simp)
    have h2 := ih (fun m hm => this m (by simp [hm]))
    simp only [List.sum_cons, List.length_cons, Nat.add_mul, Nat.one_mul]
    omega
theorem lens_ge_min {c : CutZ} (ok : c.Ok) : ∀ l, l ≠ [] → ((endsZ c l).length - 1) * c.mn < l.length := by
  refine chunk_rec ok (by simp) (fun l hl h _ => ?_) (fun l e h ih hl => ?_)
  · rw [endsZ_none hl h]
    have : 0 < l.length := List.length_pos_iff.2 hl
    simpa using this
  · have hb := nxtL_bd ok h
    rw [endsZ_some ok h, List.length_cons, List.length_map, Nat.add_sub_cancel]
    by_cases hd : l.drop e = []
    · rw [hd, endsZ_nil]; simp; omega
    · have h1 := ih hd
      have h2 := endsZ_ne ok hd
      rw [List.length_drop] at h1
      have h3 : (endsZ c (l.drop e)).length * c.mn = ((endsZ c (l.drop e)).length - 1) * c.mn + c.mn := by
        have h4 : (endsZ c (l.drop e)).length = ((endsZ c (l.drop e)).length - 1) + 1 := by omega
        conv => lhs; rw [h4]
        rw [Nat.add_mul, Nat.one_mul]
      omega

/-- a wider mask: all that it lets by the other one lets by -/
structure Wider (c c' : CutZ) : Prop where
  mn : c'.mn = c.mn
  mx : c'.mx = c.mx
  wn : c'.wn = c.wn
  imp : ∀ s, Fp s → maskZ c'.mask s = true → maskZ c.mask s = true
theorem endL_wider {c c' : CutZ} (h : Wider c c') {l : List Int} {e : Nat} (he : endL c' l e = true) : endL c l e = true := by
  unfold endL stopZ at he ⊢
  rw [h.mn, h.mx, h.wn] at he
  rw [Bool.and_eq_true, Bool.or_eq_true] at he ⊢
  exact ⟨he.1, he.2.imp id (h.imp _ (sumZ_fp _))⟩
theorem nxtL_wider {c c' : CutZ} (h : Wider c c') {l : List Int} {e' : Nat} (he : nxtL c' l = some e') : ∃ e, nxtL c l = some e ∧ e ≤ e' := by
  obtain ⟨h0, h1, h2, _⟩ := nxtL_some.1 he
  cases hn : nxtL c l with
  | none => have := nxtL_none.1 hn e' h0 h1; rw [endL_wider h h2] at this; cases this
  | some e =>
    refine ⟨e, rfl, ?_⟩
    rcases Nat.lt_or_ge e' e with hlt | hge
    · have := (nxtL_some.1 hn).2.2.2 e' h0 hlt
      rw [endL_wider h h2] at this; cases this
    · exact hge
theorem endsZ_wider {c c' : CutZ} (ok : c.Ok) (ok' : c'.Ok) (h : Wider c c') : ∀ (i : Nat) (l : List Int) (x y : Nat), (endsZ c l)[i]? = some x → (endsZ c' l)[i]? = some y → (∀ j, j < i → (endsZ c l)[j]? = (endsZ c' l)[j]?) → x ≤ y := by
  intro i
  induction i with
  | zero =>
    intro l x y hx hy _
    by_cases hl : l = []
    · subst hl; simp [endsZ_nil] at hx
    cases hn : nxtL c' l with
    | none =>
      rw [endsZ_none hl hn] at hy
      simp at hy
      have := (endsZ_bd ok l x (List.mem_of_getElem? hx)).2
      omega
    | some e' =>
      obtain ⟨e, he, hle⟩ := nxtL_wider h hn
      rw [endsZ_some ok' hn] at hy
      rw [endsZ_some ok he] at hx
      simp at hx hy
      omega
  | succ i ih =>
    intro l x y hx hy hall
    by_cases hl : l = []
    · subst hl; simp [endsZ_nil] at hx
    have h0 := hall 0 (by omega)
    cases hn : nxtL c' l with
    | none => rw [endsZ_none hl hn] at hy; simp at hy
    | some e' =>
      obtain ⟨e, he, hle⟩ := nxtL_wider h hn
      rw [endsZ_some ok' hn] at hy h0
      rw [endsZ_some ok he] at hx h0
      simp at h0
      subst h0
      rw [List.getElem?_cons_succ, List.getElem?_map] at hx hy
      cases hx' : (endsZ c (l.drop e))[i]? with
      | none => rw [hx'] at hx; simp at hx
      | some x' =>
        cases hy' : (endsZ c' (l.drop e))[i]? with
        | none => rw [hy'] at hy; simp at hy
        | some y' =>
          rw [hx'] at hx; rw [hy'] at hy
          simp at hx hy
          have := ih (l.drop e) x' y' hx' hy' (fun j hj => by
            have := hall (j + 1) (by omega)
            rw [endsZ_some ok he, endsZ_some ok' hn, List.getElem?_cons_succ, List.getElem?_cons_succ, List.getElem?_map, List.getElem?_map] at this
            cases h1 : (endsZ c (l.drop e))[j]? <;> cases h2 : (endsZ c' (l.drop e))[j]? <;> rw [h1, h2] at this <;> simp at this <;> simp [this])
          omega
end

/- CutsL:
  The chunks of a list by their lengths. Plain Lean.
-/
section
set_option linter.unusedVariables false
set_option linter.unusedSimpArgs false
set_option linter.unnecessarySimpa false

/-- the pieces of a list of the given lengths -/
def cutsL : List Nat → List Int → List (List Int)
  | [], _ => []
  | n :: ns, l => l.take n :: cutsL ns (l.drop n)
theorem cutsL_length : ∀ (ns : List Nat) (l : List Int), (cutsL ns l).length = ns.length
  | [], _ => rfl
  | n :: ns, l => by simp [cutsL, cutsL_length ns]
theorem cutsL_snoc : ∀ (ns : List Nat) (n : Nat) (l : List Int), cutsL (ns ++ [n]) l = cutsL ns l ++ [(l.drop ns.sum).take n]
  | [], n, l => by simp [cutsL]
  | m :: ns, n, l => by simp [cutsL, cutsL_snoc ns n, List.drop_drop]
theorem take_succ_snoc {α : Type} (l : List α) (k : Nat) (h : k < l.length) : l.take (k + 1) = l.take k ++ [l[k]] := by simp
theorem cutsL_take (ns : List Nat) (k : Nat) (h : k < ns.length) (l : List Int) : cutsL (ns.take (k + 1)) l = cutsL (ns.take k) l ++ [(l.drop (ns.take k).sum).take ns[k]] := by
  rw [take_succ_snoc ns k h, cutsL_snoc]
theorem cutsL_flat : ∀ (ns : List Nat) (l : List Int), (cutsL ns l).flatten = l.take ns.sum
  | [], l => by simp [cutsL]
  | n :: ns, l => by rw [cutsL, List.flatten_cons, cutsL_flat ns, List.sum_cons, List.take_add]
theorem cutsL_lens : ∀ (ns : List Nat) (l : List Int), ns.sum ≤ l.length → (cutsL ns l).map List.length = ns
  | [], _, _ => rfl
  | n :: ns, l, h => by
    rw [List.sum_cons] at h
    rw [cutsL, List.map_cons, cutsL_lens ns _ (by rw [List.length_drop]; omega), List.length_take, Nat.min_eq_left (by omega)]
theorem take_sum_succ (ns : List Nat) (k : Nat) (h : k < ns.length) : (ns.take (k + 1)).sum = (ns.take k).sum + ns[k] := by
  rw [take_succ_snoc ns k h, List.sum_append]; simp
theorem take_sum_le : ∀ (ns : List Nat) (k : Nat), (ns.take k).sum ≤ ns.sum
  | [], k => by simp
  | n :: ns, 0 => by simp
  | n :: ns, k + 1 => by simp only [List.take_succ_cons, List.sum_cons]; have := take_sum_le ns k; omega
theorem psums_get : ∀ (ns : List Nat) (s k : Nat) (h : k < ns.length) (h' : k < (psums s ns).length), (psums s ns)[k] = s + (ns.take (k + 1)).sum
  | n :: ns, s, 0, h, h' => by simp [psums]
  | n :: ns, s, k + 1, h, h' => by
    simp only [psums, List.getElem_cons_succ, List.take_succ_cons, List.sum_cons]
    rw [psums_get ns (s + n) k (by simpa using h)]
    omega
end

end Go.Proofs.Ytpoiejgoongllaa
