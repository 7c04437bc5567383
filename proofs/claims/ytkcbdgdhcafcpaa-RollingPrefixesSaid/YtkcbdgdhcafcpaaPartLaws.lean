/-
  Window over the prefixes is the fingerprint of the part. Plain arithmetic.
-/
import Derived.Test.YtkcbdgdhcafcpaaRing
import Derived.Test.YtkcbdgdhcafcpaaWin
import Derived.Test.YtkcbdgdhcafcpaaPref
namespace Go.Proofs.Ytkcbdgdhcafcpaa
set_option linter.unusedVariables false
set_option linter.unusedSimpArgs false
set_option linter.unnecessarySimpa false

theorem nth_prefU (zs : List Int) (k : Nat) (h : k ≤ zs.length) : nth (prefU zs zs.length) (k : Int) = sumZ (zs.take k) := by
  rw [nth_at (by rw [prefU_length]; omega), prefU_at zs zs.length k h]
theorem win_part (zs : List Int) (f t : Nat) (hf : f ≤ t) (ht : t ≤ zs.length) (hm : zs.length ≤ 1048576) : winR (prefU zs zs.length) f t = (sumZ ((zs.drop f).take (t - f)), true) := by
  have hc : zs.take t = zs.take f ++ (zs.drop f).take (t - f) := by
    rw [← List.drop_take]; have h1 := List.take_append_drop f (zs.take t); rw [List.take_take, Nat.min_eq_left hf] at h1; exact h1.symm
  have e := sumZ_append (zs.take f) ((zs.drop f).take (t - f))
  rw [← hc] at e
  have hl : ((zs.drop f).take (t - f)).length = t - f := by rw [List.length_take, List.length_drop]; omega
  rw [hl] at e
  have ht' := sumZ_fp (zs.take t)
  have hf' := sumZ_fp (zs.take f)
  rw [winR_ok (by rw [prefU_length]; omega) (by rw [nth_prefU zs f (by omega), nth_prefU zs t ht]; unfold Fp at ht' hf'; omega), nth_prefU zs f (by omega), nth_prefU zs t ht, powI_in (by omega) (by omega), e]
  rw [show ((t : Int) - (f : Int)).toNat = t - f by omega, fsub_fadd (sumZ_fp _)]

end Go.Proofs.Ytkcbdgdhcafcpaa
