/-
  The row of stockyardlaw22.FingerprintWindows where what it reads is of bulk at most 1048576: the law returns true, and each argument reads as before.
-/
import Derived.Test.YtadldlijmnohhaaLawWindows
import Derived.Test.YtadldlijmnohhaaBulk
namespace Go.Proofs.Ytadldlijmnohhaa
set_option linter.unusedVariables false
set_option linter.unusedSimpArgs false
set_option linter.unnecessarySimpa false
open Go.ChangeShapes Go.WideShapes Go.ChangeAt Go.RowKit Go.Joins

theorem fingerprintWindows_contract (H : Type) (enc : TypeId × Value → H) (W : World) (base : Nat) (args : Array Value) (ds gs : List (DataW H)) (before : List MemPlace)
    (hval : ∀ (j : Nat) t v, Try.f9.params[j]? = some t → args[j]? = some v → Value.okWide Try.prog W .any base t v)
    (hW : DataW.Whole enc Try.prog Try.f9.params.toList Rows.fingerprintWindowsSpec.vars false W args.toList ds gs before)
    (hk : Rows.uptoSmall H (ds ++ gs) = true) :
    Calls Try.prog 9 args W fun e W' => ∃ v, e = .returned v ∧ Rows.fingerprintWindowsSpec.post enc Try.prog Try.f9 false true false false W args v W' := by
  have hW' := hW
  obtain ⟨p, q, hA0, hV, rfl, _, _⟩ := hW
  have hlt : ∀ x ∈ p ++ q, x.block < W.heap.size := fun x hx => hW'.lt x hx
  have hA : DataW.TrodAll enc Try.prog W 0 (fun _ => true) true Try.f9.params.toList args.toList ds p := hA0
  clear hA0
  rw [Try.params9] at hA hval
  obtain ⟨v0, vs0, d0, ds0, p0, q0, hargs, rfl, rfl, t0, g0⟩ := trodAll_cons hA
  obtain ⟨v1, vs1, d1, ds1, p1, q1, rfl, rfl, rfl, t1, g1⟩ := trodAll_cons g0
  obtain ⟨v2, vs2, d2, ds2, p2, q2, rfl, rfl, rfl, t2, g2⟩ := trodAll_cons g1
  obtain ⟨v3, vs3, d3, ds3, p3, q3, rfl, rfl, rfl, t3, g3⟩ := trodAll_cons g2
  obtain ⟨rfl, rfl, rfl⟩ := trodAll_nil g3
  obtain rfl : args = #[v0, v1, v2, v3] := by cases args; simp_all
  obtain ⟨rfl, rfl⟩ := trodVars_none hV
  obtain ⟨A0, c0, z0, rfl, r0, wf0, k0, cm0, e0⟩ := open_row (k := .u8) Try.underlying27 Try.underlying5 (by kernel_rfl) (hval 0 27 v0 rfl rfl) t0 (fun x hx => hlt x (by simp [hx]))
  have w0 : ∀ z ∈ z0, 0 ≤ z ∧ z ≤ 255 := fun z hz => by have := wf0 z hz; simp [Lit.wf, IntKind.min, IntKind.max, IntKind.signed, IntKind.bits] at this; omega
  have m0 := bulk_row hk (j := 0) rfl e0
  obtain ⟨A1, c1, z1, rfl, r1, wf1, k1, cm1, e1⟩ := open_row (k := .u64) Try.underlying42 Try.underlying22 (by kernel_rfl) (hval 1 42 v1 rfl rfl) t1 (fun x hx => hlt x (by simp [hx]))
  have w1 : ∀ z ∈ z1, 0 ≤ z ∧ z < 18446744073709551616 := fun z hz => by have := wf1 z hz; simp [Lit.wf, IntKind.min, IntKind.max, IntKind.signed, IntKind.bits] at this; omega
  have m1 := bulk_row hk (j := 1) rfl e1
  obtain ⟨x2, rfl, l2, u2⟩ := open_i64 Try.underlying3 (hval 2 3 v2 rfl rfl) t2
  obtain ⟨x3, rfl, l3, u3⟩ := open_i64 Try.underlying3 (hval 3 3 v3 rfl rfl) t3
  refine (lawWindows_any A0 c0 z0 A1 c1 z1 x2 x3 W r0 w0 m0 r1 w1 m1 l2 u2 l3 u3).mono fun e W' ⟨he, hb⟩ => ?_
  subst he
  exact ⟨_, rfl, law_post (T := 4) laidOut (by kernel_rfl) (by kernel_rfl) Try.underlying4 rfl hW' rfl hb⟩

set_option maxRecDepth 100000 in
theorem fingerprintWindows_lifted (os : Os) (started : os.Started) (H : Type) (enc : TypeId × Value → H) (F : Stop.Interp) :
    ReturnsInHanded {} Try.checked os 9 .any ((Rows.OpenSpec.upto Rows.fingerprintWindowsSpec).pre6 enc Try.prog Try.f9 Rows.fingerprintWindowsUptoRow.domain false) (((Rows.OpenSpec.upto Rows.fingerprintWindowsSpec).at F).post enc Try.prog Try.f9 false true false false) := by
  refine returnsInHanded_of_cond (C := Try.checked) (s := Rows.OpenSpec.upto Rows.fingerprintWindowsSpec) (k := Rows.uptoSmall) rfl own started (by kernel_rfl) Try.func9
    (OpenSpec.witness (enc := enc) (C := Try.checked) (s := Rows.OpenSpec.upto Rows.fingerprintWindowsSpec) (k := Rows.uptoSmall) rfl false ⟨#[], #[.slice none 0 0, .slice none 0 0, .int .i64 0, .int .i64 0], []⟩ 8 (by kernel_rfl) (by kernel_rfl) (by kernel_rfl)
      (x := ([.nil, .nil, .lit (.int .i64 0), .lit (.int .i64 0)], [], [])) (by kernel_rfl) rfl (by kernel_rfl)) ?_
  intro W base args ds gs before hval hW _ hk _
  exact fingerprintWindows_contract H enc W base args ds gs before hval hW hk

theorem fingerprintWindows_upto_holds : Rows.FingerprintWindowsUptoSaid :=
  OpenClaim.holds_of_cond 9 Try.f9 rfl rfl rfl rfl rfl rfl rfl ⟨rfl, rfl, rfl, rfl, rfl⟩ rfl rfl rfl rfl rfl (by kernel_rfl) Try.func9 (by kernel_rfl)
    (of_decide_eq_true (by kernel_rfl)) (by unfold Func.isWrapper; first | (rw [if_pos (by decide +kernel)]; kernel_rfl) | (rw [if_neg (by decide +kernel)]; exact ⟨rfl, rfl⟩))
    (fun os started H enc _ F => fingerprintWindows_lifted os started H enc F)

end Go.Proofs.Ytadldlijmnohhaa
