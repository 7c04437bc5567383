/-
  What the fingerprint tells apart: one byte, two neighbours. Plain arithmetic: Base and Base - 1 have inverses modulo Prime.
-/
import Derived.Test.YtpoiejgoongllaaCutMath
namespace Go.Proofs.Ytpoiejgoongllaa
set_option linter.unusedVariables false
set_option linter.unusedSimpArgs false
set_option linter.unnecessarySimpa false

theorem dvd_cancel {c i q : Int} (h : c * i = 1 + q * 2305843009213693951) {a : Int} (hd : (2305843009213693951 : Int) ∣ a * c) : (2305843009213693951 : Int) ∣ a := by
  obtain ⟨t, ht⟩ := hd
  refine ⟨t * i - a * q, ?_⟩
  have h1 : a * c * i = a + a * q * 2305843009213693951 := by
    rw [Int.mul_assoc, h, Int.mul_add, Int.mul_one, ← Int.mul_assoc]
  rw [ht] at h1
  have h2 : 2305843009213693951 * t * i = 2305843009213693951 * (t * i) := Int.mul_assoc _ _ _
  have h3 : 2305843009213693951 * (t * i - a * q) = 2305843009213693951 * (t * i) - a * q * 2305843009213693951 := by
    rw [Int.mul_sub, Int.mul_comm (a * q)]
  omega

theorem dvd_of_emod_eq {a b : Int} (h : a % 2305843009213693951 = b % 2305843009213693951) : (2305843009213693951 : Int) ∣ a - b := by omega
theorem small_dvd {d : Int} (h : (2305843009213693951 : Int) ∣ d) (h0 : -2305843009213693951 < d) (h1 : d < 2305843009213693951) : d = 0 := by omega

theorem base_inv : (747382712868975713 : Int) * 331121832077419417 = 1 + 107325057325805320 * 2305843009213693951 := by decide
theorem base1_inv : (747382712868975712 : Int) * 474087743865645241 = 1 + 153663967031764641 * 2305843009213693951 := by decide

theorem fadd_fmul (s z : Int) : stepZ s z = (s * 747382712868975713 + (z + 1)) % 2305843009213693951 := by
  unfold stepZ fadd fmul; omega
theorem fp_near {s s' : Int} (hs : Fp s) (hs' : Fp s') : -2305843009213693951 < s - s' ∧ s - s' < 2305843009213693951 := by
  unfold Fp at hs hs'; omega
theorem byte_near {s s' : Int} (hs : 0 ≤ s ∧ s ≤ 255) (hs' : 0 ≤ s' ∧ s' ≤ 255) : -2305843009213693951 < s - s' ∧ s - s' < 2305843009213693951 := by omega
theorem eq_of_sub {a b : Int} (h : a - b = 0) : a = b := by omega
theorem inj1 (s s' z c : Int) : s * c + (z + 1) - (s' * c + (z + 1)) = (s - s') * c := by rw [Int.sub_mul]; omega
theorem inj2 (t z z' : Int) : t + (z + 1) - (t + (z' + 1)) = z - z' := by omega
theorem inj3 (t x y c : Int) : t + (x + 1) * c + (y + 1) - (t + (y + 1) * c + (x + 1)) = (x - y) * (c - 1) := by
  rw [Int.add_mul, Int.add_mul, Int.mul_sub, Int.sub_mul]; omega
theorem stepZ_inj {s s' z : Int} (hs : Fp s) (hs' : Fp s') (h : stepZ s z = stepZ s' z) : s = s' := by
  rw [fadd_fmul, fadd_fmul] at h
  have hd := dvd_of_emod_eq h
  rw [inj1] at hd
  have hn := fp_near hs hs'
  exact eq_of_sub (small_dvd (dvd_cancel base_inv hd) hn.1 hn.2)
theorem stepZ_byte {s z z' : Int} (hz : 0 ≤ z ∧ z ≤ 255) (hz' : 0 ≤ z' ∧ z' ≤ 255) (h : stepZ s z = stepZ s z') : z = z' := by
  rw [fadd_fmul, fadd_fmul] at h
  have hd := dvd_of_emod_eq h
  rw [inj2] at hd
  have hn := byte_near hz hz'
  exact eq_of_sub (small_dvd hd hn.1 hn.2)
theorem stepZ_step (s a b : Int) : stepZ (stepZ s a) b = (s * 747382712868975713 * 747382712868975713 + (a + 1) * 747382712868975713 + (b + 1)) % 2305843009213693951 := by
  rw [fadd_fmul, fadd_fmul]
  omega
theorem stepZ_two {s x y : Int} (hx : 0 ≤ x ∧ x ≤ 255) (hy : 0 ≤ y ∧ y ≤ 255) (h : stepZ (stepZ s x) y = stepZ (stepZ s y) x) : x = y := by
  rw [stepZ_step, stepZ_step] at h
  have hd := dvd_of_emod_eq h
  rw [inj3] at hd
  have hn := byte_near hx hy
  exact eq_of_sub (small_dvd (dvd_cancel base1_inv hd) hn.1 hn.2)
theorem foldl_inj (zs : List Int) : ∀ {s s' : Int}, Fp s → Fp s' → zs.foldl stepZ s = zs.foldl stepZ s' → s = s' := by
  induction zs with
  | nil => intro s s' _ _ h; exact h
  | cons z zs ih => intro s s' hs hs' h; exact stepZ_inj hs hs' (ih (stepZ_fp s z) (stepZ_fp s' z) h)

/-- exactly one byte differs -/
theorem sumZ_byte (a b : List Int) (z z' : Int) (hz : 0 ≤ z ∧ z ≤ 255) (hz' : 0 ≤ z' ∧ z' ≤ 255) : sumZ (a ++ z :: b) = sumZ (a ++ z' :: b) ↔ z = z' := by
  constructor
  · intro h
    simp only [sumZ, List.foldl_append, List.foldl_cons] at h
    exact stepZ_byte hz hz' (foldl_inj b (stepZ_fp _ _) (stepZ_fp _ _) h)
  · rintro rfl; rfl
theorem sumZ_swap (a b : List Int) (x y : Int) (hx : 0 ≤ x ∧ x ≤ 255) (hy : 0 ≤ y ∧ y ≤ 255) : sumZ (a ++ x :: y :: b) = sumZ (a ++ y :: x :: b) ↔ x = y := by
  constructor
  · intro h
    simp only [sumZ, List.foldl_append, List.foldl_cons] at h
    exact stepZ_two hx hy (foldl_inj b (stepZ_fp _ _) (stepZ_fp _ _) h)
  · rintro rfl; rfl

/-- the same with an index -/
theorem split_at_ {zs : List Int} {k : Nat} (h : k < zs.length) : zs = zs.take k ++ zs[k] :: zs.drop (k + 1) := by
  rw [List.getElem_cons_drop, List.take_append_drop]
theorem sumZ_set (zs : List Int) (k : Nat) (h : k < zs.length) (z : Int) (hz : ∀ x ∈ zs, 0 ≤ x ∧ x ≤ 255) (hz' : 0 ≤ z ∧ z ≤ 255) : sumZ zs = sumZ (zs.set k z) ↔ zs[k] = z := by
  have e := split_at_ h
  have e2 : zs.set k z = zs.take k ++ z :: zs.drop (k + 1) := List.set_eq_take_append_cons_drop.trans (by rw [if_pos h])
  rw [e2]
  have := sumZ_byte (zs.take k) (zs.drop (k + 1)) zs[k] z (hz _ (List.getElem_mem h)) hz'
  rw [← e] at this
  exact this
theorem sumZ_swap_at (zs : List Int) (k : Nat) (h : k + 1 < zs.length) (hz : ∀ x ∈ zs, 0 ≤ x ∧ x ≤ 255) :
    sumZ zs = sumZ ((zs.set k zs[k + 1]).set (k + 1) zs[k]) ↔ zs[k] = zs[k + 1] := by
  have h0 : k < zs.length := by omega
  have e : zs = zs.take k ++ zs[k] :: zs[k + 1] :: zs.drop (k + 2) := by
    rw [List.getElem_cons_drop, List.getElem_cons_drop, List.take_append_drop]
  have e2 : (zs.set k zs[k + 1]).set (k + 1) zs[k] = zs.take k ++ zs[k + 1] :: zs[k] :: zs.drop (k + 2) := by
    apply List.ext_getElem
    · simp; omega
    · intro i h1 h2
      simp only [List.getElem_set, List.getElem_append, List.length_take]
      by_cases hi : i < k
      · simp [hi, show ¬ k + 1 = i by omega, show ¬ k = i by omega, show i < min k zs.length by omega]
      · rw [dif_neg (by omega)]
        simp only [List.getElem_cons, List.getElem_drop]
        by_cases h3 : i = k
        · subst h3
          simp [show min i zs.length = i by omega]
        · by_cases h4 : i = k + 1
          · subst h4
            simp [show k + 1 - min k zs.length = 1 by omega]
          · rw [if_neg (by omega), if_neg (by omega), dif_neg (by omega), dif_neg (by omega)]
            congr 1
            omega
  rw [e2]
  have := sumZ_swap (zs.take k) (zs.drop (k + 2)) zs[k] zs[k + 1] (hz _ (List.getElem_mem h0)) (hz _ (List.getElem_mem h))
  rw [← e] at this
  exact this

end Go.Proofs.Ytpoiejgoongllaa
