/-
  What Join and Rest do to valid IDs. Plain arithmetic.
-/
import Derived.Test.YtadldlijmnohhaaRing
import Derived.Test.YtadldlijmnohhaaJoin
namespace Go.Proofs.Ytadldlijmnohhaa
set_option linter.unusedVariables false
set_option linter.unusedSimpArgs false
set_option linter.unnecessarySimpa false

theorem powI_add {m n : Int} (m0 : 0 ≤ m) (n0 : 0 ≤ n) (h : m + n ≤ 1048576) : powI (m + n) = fmul (powI m) (powI n) := by
  rw [powI_in (by omega) h, powI_in m0 (by omega), powI_in n0 (by omega), powZ_add]
  congr 1; omega
theorem powI_zero : powI 0 = 1 := by decide
theorem vld_fp {s n : Int} (h : vldB s n = true) (h0 : 0 ≤ s) : Fp s := ⟨h0, (vldB_iff.1 h).2.2.1⟩
theorem vld_null : vldB 0 0 = true := by decide
theorem join_vld {a b c d : Int} (h1 : vldB a b = true) (h2 : vldB c d = true) (h : b + d ≤ 1048576) : vldB (fadd (fmul a (powI d)) c) (b + d) = true := by
  obtain ⟨b0, b1, a1, e1⟩ := vldB_iff.1 h1
  obtain ⟨d0, d1, c1, e2⟩ := vldB_iff.1 h2
  refine vldB_iff.2 ⟨by omega, h, fadd_hi _ _, ?_⟩
  by_cases h0 : 0 < b + d
  · exact .inl h0
  · right
    have hb : b = 0 := by omega
    have hd : d = 0 := by omega
    subst hb hd
    have ha : a = 0 := by omega
    have hc : c = 0 := by omega
    subst ha hc
    rw [zero_fmul]; rfl

theorem join_six {s1 n1 s2 n2 s3 n3 : Int} (p1 : vldB s1 n1 = true) (p2 : vldB s2 n2 = true) (p3 : vldB s3 n3 = true) (q1 : n1 ≤ 262144) (q2 : n2 ≤ 262144) (q3 : n3 ≤ 262144) (z1 : 0 ≤ s1) (z2 : 0 ≤ s2) :
    ∃ xy yz l : Int, 0 ≤ xy ∧ 0 ≤ yz ∧ 0 ≤ n1 + n2 ∧ 0 ≤ n2 + n3 ∧ joinR s1 n1 s2 n2 = (xy, n1 + n2, 0) ∧ joinR xy (n1 + n2) s3 n3 = (l, n1 + n2 + n3, 0) ∧ joinR s2 n2 s3 n3 = (yz, n2 + n3, 0) ∧
      joinR s1 n1 yz (n2 + n3) = (l, n1 + n2 + n3, 0) ∧ joinR 0 0 s1 n1 = (s1, n1, 0) ∧ joinR s1 n1 0 0 = (s1, n1, 0) := by
  have b1 := vldB_iff.1 p1
  have b2 := vldB_iff.1 p2
  have b3 := vldB_iff.1 p3
  refine ⟨_, _, _, fadd_lo _ _, fadd_lo _ _, by omega, by omega, joinR_ok p1 p2 (by omega), joinR_ok (join_vld p1 p2 (by omega)) p3 (by omega), joinR_ok p2 p3 (by omega), ?_, ?_, ?_⟩
  · rw [joinR_ok p1 (join_vld p2 p3 (by omega)) (by omega), fassoc, powI_add (by omega) (by omega) (by omega), Int.add_assoc]
  · rw [joinR_ok vld_null p1 (by omega), zero_fmul, zero_fadd (vld_fp p1 z1)]; simp
  · rw [joinR_ok p1 vld_null (by omega), powI_zero, fmul_one (vld_fp p1 z1), fadd_zero (vld_fp p1 z1)]; simp

end Go.Proofs.Ytadldlijmnohhaa
