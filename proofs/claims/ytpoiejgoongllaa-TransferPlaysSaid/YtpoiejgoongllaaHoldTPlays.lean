/-
  The row of stockyardlaw37.TransferPlays: the law returns true, and each argument reads as before.
-/
import Derived.Test.YtpoiejgoongllaaLawTPlays
import Derived.Test.YtpoiejgoongllaaFrame
import Derived.Test.YtpoiejgoongllaaOpenPk37
namespace Go.Proofs.Ytpoiejgoongllaa
set_option linter.unusedVariables false
set_option linter.unusedSimpArgs false
set_option linter.unnecessarySimpa false
open Go.ChangeShapes Go.WideShapes Go.ChangeAt Go.RowKit Go.Joins

set_option maxRecDepth 100000 in
theorem transferPlays_contract (H : Type) (enc : TypeId × Value → H) (W : World) (base : Nat) (args : Array Value) (ds gs : List (DataW H)) (before : List MemPlace)
    (hval : ∀ (j : Nat) t v, Try.f6.params[j]? = some t → args[j]? = some v → Value.okWide Try.prog W .any base t v)
    (hW : DataW.Whole enc Try.prog Try.f6.params.toList Rows.transferPlaysSpec.vars false W args.toList ds gs before)
    (hsz : (DataW.weightsEach Try.prog (Try.f6.params.toList ++ Rows.transferPlaysSpec.plain.varTypes Try.prog) (ds ++ gs)).all (· ≤ reachBytes) = true) :
    Calls Try.prog 6 args W fun e W' => ∃ v, e = .returned v ∧ Rows.transferPlaysSpec.post enc Try.prog Try.f6 false true false false W args v W' := by
  have hW' := hW
  obtain ⟨p, q, hA0, hV, rfl, _, _⟩ := hW
  have hlt : ∀ x ∈ p ++ q, x.block < W.heap.size := fun x hx => hW'.lt x hx
  have hA : DataW.TrodAll enc Try.prog W 0 (fun _ => true) true Try.f6.params.toList args.toList ds p := hA0
  clear hA0
  rw [Try.params6] at hA hval
  obtain ⟨v0, vs0, d0, ds0, p0, q0, hargs, rfl, rfl, t0, g0⟩ := trodAll_cons hA
  obtain ⟨v1, vs1, d1, ds1, p1, q1, rfl, rfl, rfl, t1, g1⟩ := trodAll_cons g0
  obtain ⟨v2, vs2, d2, ds2, p2, q2, rfl, rfl, rfl, t2, g2⟩ := trodAll_cons g1
  obtain ⟨rfl, rfl, rfl⟩ := trodAll_nil g2
  obtain rfl : args = #[v0, v1, v2] := by cases args; simp_all
  obtain ⟨rfl, rfl⟩ := trodVars_none hV
  obtain ⟨A0, c0, z0, rfl, r0, wf0, k0, cm0, e0⟩ := open_row (k := .i64) Try.underlying22 Try.underlying3 (by kernel_rfl) (hval 0 22 v0 rfl rfl) t0 (fun x hx => hlt x (by simp [hx]))
  have w0 : ∀ z ∈ z0, -9223372036854775808 ≤ z ∧ z ≤ 9223372036854775807 := fun z hz => by have := wf0 z hz; simp [Lit.wf, IntKind.min, IntKind.max, IntKind.signed, IntKind.bits] at this; omega
  have m0 := reach_row hsz (j := 0) (t := 22) (e := 3) rfl rfl Try.underlying22 e0
  rw [show Try.prog.bytesOf 3 = 8 by kernel_rfl] at m0
  unfold reachBytes at m0
  obtain ⟨A1, c1, z1, rfl, r1, w1, k1, cm1, e1, b1, l1⟩ := open_rowsK (f := pkC) (Good := PkG W) (K := fun x : Pk => x.p.zs.length) (c := 5) Try.underlying49 (by kernel_rfl) (by omega) (fun _ => rfl) (fun n cs' y h' hp' => open_packetC h' hp') (hval 1 49 v1 rfl rfl) t1 (fun x hx => hlt x (by simp [hx]))
  have m1 := reach_rows hsz (j := 1) (t := 49) (e := 55) rfl rfl Try.underlying49 e1
  rw [show Try.prog.bytesOf 55 = 56 by kernel_rfl] at m1
  unfold reachBytes at m1
  obtain ⟨x2, rfl, l2, u2⟩ := open_i64 Try.underlying3 (hval 2 3 v2 rfl rfl) t2
  refine (lawTPlays_any A0 c0 z0 A1 c1 z1 x2 W r0 w0 (by have := cm0; unfold maxLen at this; omega) r1 (fun x hx => ⟨(w1 x hx).1.1, (w1 x hx).1.2, (w1 x hx).2.1, by have := (w1 x hx).2.2; unfold maxLen at this; omega⟩) (by omega)).mono fun e W' ⟨he, hb⟩ => ?_
  subst he
  exact ⟨_, rfl, law_post (T := 4) laidOut (by kernel_rfl) (by kernel_rfl) Try.underlying4 rfl hW' rfl hb⟩

set_option maxRecDepth 100000 in
theorem transferPlays_lifted (os : Os) (started : os.Started) (H : Type) (enc : TypeId × Value → H) :
    ReturnsInHanded {} Try.checked os 6 .any (Rows.transferPlaysSpec.pre6 enc Try.prog Try.f6 Rows.transferPlaysRow.domain false) (Rows.transferPlaysSpec.post enc Try.prog Try.f6 false true false false) := by
  refine returnsInHanded_of_change_sized (C := Try.checked) own started (by kernel_rfl) Try.func6
    (ChangeSpec.witness6 (enc := enc) (C := Try.checked) false ⟨#[], #[.slice none 0 0, .slice none 0 0, .int .i64 0], []⟩ 8 (by kernel_rfl) (by kernel_rfl) (by kernel_rfl) (by kernel_rfl)) ?_
  intro W base args ds gs before hval hW _ hsz _
  exact transferPlays_contract H enc W base args ds gs before hval hW hsz

theorem transferPlays_holds : Rows.TransferPlaysSaid :=
  OpenClaim.holds_of_wide 6 Try.f6 rfl rfl rfl rfl rfl rfl rfl ⟨rfl, rfl, rfl, rfl, rfl⟩ rfl rfl rfl rfl rfl (by kernel_rfl) Try.func6 (by kernel_rfl)
    (of_decide_eq_true (by kernel_rfl)) (by unfold Func.isWrapper; first | (rw [if_pos (by decide +kernel)]; kernel_rfl) | (rw [if_neg (by decide +kernel)]; exact ⟨rfl, rfl⟩))
    (fun os started H enc _ => transferPlays_lifted os started H enc)

end Go.Proofs.Ytpoiejgoongllaa
