/-
  The row of stockyardlaw24.ChunkerChecks: the law returns true, and each argument reads as before.
-/
import Derived.Test.YtnbbbmmpkjiejaaLawCChecks
import Derived.Test.YtnbbbmmpkjiejaaFrame
namespace Go.Proofs.Ytnbbbmmpkjiejaa
set_option linter.unusedVariables false
set_option linter.unusedSimpArgs false
set_option linter.unnecessarySimpa false
open Go.ChangeShapes Go.WideShapes Go.ChangeAt Go.RowKit Go.Joins

theorem chunkerChecks_contract (H : Type) (enc : TypeId × Value → H) (W : World) (base : Nat) (args : Array Value) (ds gs : List (DataW H)) (before : List MemPlace)
    (hval : ∀ (j : Nat) t v, Try.f11.params[j]? = some t → args[j]? = some v → Value.okWide Try.prog W .any base t v)
    (hW : DataW.Whole enc Try.prog Try.f11.params.toList Rows.chunkerChecksSpec.vars false W args.toList ds gs before)
    (hsz : (DataW.weightsEach Try.prog (Try.f11.params.toList ++ Rows.chunkerChecksSpec.plain.varTypes Try.prog) (ds ++ gs)).all (· ≤ reachBytes) = true) :
    Calls Try.prog 11 args W fun e W' => ∃ v, e = .returned v ∧ Rows.chunkerChecksSpec.post enc Try.prog Try.f11 false true false false W args v W' := by
  have hW' := hW
  obtain ⟨p, q, hA0, hV, rfl, _, _⟩ := hW
  have hlt : ∀ x ∈ p ++ q, x.block < W.heap.size := fun x hx => hW'.lt x hx
  have hA : DataW.TrodAll enc Try.prog W 0 (fun _ => true) true Try.f11.params.toList args.toList ds p := hA0
  clear hA0
  rw [Try.params11] at hA hval
  obtain ⟨v0, vs0, d0, ds0, p0, q0, hargs, rfl, rfl, t0, g0⟩ := trodAll_cons hA
  obtain ⟨v1, vs1, d1, ds1, p1, q1, rfl, rfl, rfl, t1, g1⟩ := trodAll_cons g0
  obtain ⟨rfl, rfl, rfl⟩ := trodAll_nil g1
  obtain rfl : args = #[v0, v1] := by cases args; simp_all
  obtain ⟨rfl, rfl⟩ := trodVars_none hV
  obtain ⟨ca0, cb0, cc0, cd0, rfl, cl0, cu0⟩ := open_cut (hval 0 28 v0 rfl rfl) t0
  obtain ⟨A1, c1, z1, rfl, r1, wf1, k1, cm1, e1⟩ := open_row (k := .u8) Try.underlying30 Try.underlying5 (by kernel_rfl) (hval 1 30 v1 rfl rfl) t1 (fun x hx => hlt x (by simp [hx]))
  have w1 : ∀ z ∈ z1, 0 ≤ z ∧ z ≤ 255 := fun z hz => by have := wf1 z hz; simp [Lit.wf, IntKind.min, IntKind.max, IntKind.signed, IntKind.bits] at this; omega
  have m1 := reach_row hsz (j := 1) (t := 30) (e := 5) rfl rfl Try.underlying30 e1
  rw [show Try.prog.bytesOf 5 = 1 by kernel_rfl] at m1
  unfold reachBytes at m1
  refine (lawCChecks_any ca0 cb0 cc0 cd0 cl0 cu0 A1 c1 z1 W r1 w1 k1).mono fun e W' ⟨he, hb⟩ => ?_
  subst he
  exact ⟨_, rfl, law_post (T := 4) laidOut (by kernel_rfl) (by kernel_rfl) Try.underlying4 rfl hW' rfl hb⟩

set_option maxRecDepth 100000 in
theorem chunkerChecks_lifted (os : Os) (started : os.Started) (H : Type) (enc : TypeId × Value → H) :
    ReturnsInHanded {} Try.checked os 11 .any (Rows.chunkerChecksSpec.pre6 enc Try.prog Try.f11 Rows.chunkerChecksRow.domain false) (Rows.chunkerChecksSpec.post enc Try.prog Try.f11 false true false false) := by
  refine returnsInHanded_of_change_sized (C := Try.checked) own started (by kernel_rfl) Try.func11
    (ChangeSpec.witness6 (enc := enc) (C := Try.checked) false ⟨#[], #[.agg #[.int .i64 0, .int .i64 0, .int .i64 0, .int .u64 0], .slice none 0 0], []⟩ 8 (by kernel_rfl) (by kernel_rfl) (by kernel_rfl) (by kernel_rfl)) ?_
  intro W base args ds gs before hval hW _ hsz _
  exact chunkerChecks_contract H enc W base args ds gs before hval hW hsz

theorem chunkerChecks_holds : Rows.ChunkerChecksSaid :=
  OpenClaim.holds_of_wide 11 Try.f11 rfl rfl rfl rfl rfl rfl rfl ⟨rfl, rfl, rfl, rfl, rfl⟩ rfl rfl rfl rfl rfl (by kernel_rfl) Try.func11 (by kernel_rfl)
    (of_decide_eq_true (by kernel_rfl)) (by unfold Func.isWrapper; first | (rw [if_pos (by decide +kernel)]; kernel_rfl) | (rw [if_neg (by decide +kernel)]; exact ⟨rfl, rfl⟩))
    (fun os started H enc _ => chunkerChecks_lifted os started H enc)

end Go.Proofs.Ytnbbbmmpkjiejaa
