/-
  stockyardlaw22.known returns true.
-/
import Derived.Test.YtadldlijmnohhaaSum
namespace Go.Proofs.Ytadldlijmnohhaa
set_option linter.unusedVariables false
set_option linter.unusedSimpArgs false
set_option linter.unnecessarySimpa false
open Go.RowKit Go.Lib
attribute [local go_sem ↓] Go.wp_at_zero Go.wp_at_succ

theorem sum_lit (A : Option Addr) (n cap B : Nat) (zs : List Int) (w : World) (hn : zs.length = n) (hr : Row w B A (zs.map (.int .u8))) (hz : ∀ z ∈ zs, 0 ≤ z ∧ z ≤ 255) (hm : n ≤ 9223372036854775807) :
    Calls Try.prog 21 #[.slice A n cap] w fun e w' => e = .returned (.int .u64 (sumZ zs)) ∧ w = w' := by
  subst hn
  exact sum_any A cap B zs w hr hz hm

set_option maxHeartbeats 1000000 in
theorem known22_any (w : World) :
    Calls Try.prog 18 #[] w fun e w' => e = .returned (.bool true) ∧ Below w.heap.size w w' := by
  have e0 : sumZ [] = 0 := by decide
  have e1 : sumZ [0] = 1 := by decide
  have e2 : sumZ [0, 0] = 747382712868975714 := by decide
  have e3 : sumZ [1, 0] = 1494765425737951427 := by decide
  go_enter Try.func18, Try.ntmps18
  go_wp2_with fail
  refine (sum_lit none 0 0 0 [] _ rfl Row.nil (by simp) (by omega)).mono ?_
  rintro e w1 ⟨rfl, rfl⟩
  go_wp2_with fail
  refine (sum_lit _ 1 1 (w.heap.size + 1) [0] _ rfl (.inr ⟨_, rfl, by simp, ?_⟩) (by simp) (by omega)).mono ?_
  · intro j hj
    simp at hj
    subst hj
    go_simp
  rintro e w1 ⟨rfl, rfl⟩
  go_wp2_with fail
  refine (sum_lit _ 2 2 (w.heap.size + 2) [0, 0] _ rfl (.inr ⟨_, rfl, by simp, ?_⟩) (by simp) (by omega)).mono ?_
  · intro j hj
    match j, hj with
    | 0, _ => go_simp
    | 1, _ => go_simp
  rintro e w1 ⟨rfl, rfl⟩
  go_wp2_with fail
  refine (sum_lit _ 2 2 (w.heap.size + 3) [1, 0] _ rfl (.inr ⟨_, rfl, by simp, ?_⟩) (by simp) (by omega)).mono ?_
  · intro j hj
    match j, hj with
    | 0, _ => go_simp
    | 1, _ => go_simp
  rintro e w1 ⟨rfl, rfl⟩
  go_wp2_with fail
  go_ret
  exact ⟨rfl, by (repeat (first | exact Below.refl _ _ | assumption | refine Below.drew ?_ | refine below_drewN ?_ _ | refine Below.alloc ?_ (by first | omega | (simp; done) | (simp; omega) | (simp [World.setCell]; omega)) _ | refine Below.setCell ?_ (by first | omega | (simp; done) | (simp; omega) | (simp [World.setCell]; omega)) _))⟩

end Go.Proofs.Ytadldlijmnohhaa
