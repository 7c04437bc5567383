/-
  The row of stockyardlaw37.TransferTrue: the law returns true, and each argument reads as before.
-/
import Derived.Test.YtpoiejgoongllaaLawTTrue
import Derived.Test.YtpoiejgoongllaaFrame
import Derived.Test.YtpoiejgoongllaaOpenPk37
import Derived.Test.YtpoiejgoongllaaOpenCW
namespace Go.Proofs.Ytpoiejgoongllaa
set_option linter.unusedVariables false
set_option linter.unusedSimpArgs false
set_option linter.unnecessarySimpa false
open Go.ChangeShapes Go.WideShapes Go.ChangeAt Go.RowKit Go.Joins

set_option maxRecDepth 100000 in
theorem transferTrue_contract (H : Type) (enc : TypeId × Value → H) (W : World) (base : Nat) (args : Array Value) (ds gs : List (DataW H)) (before : List MemPlace)
    (hval : ∀ (j : Nat) t v, Try.f7.params[j]? = some t → args[j]? = some v → Value.okWide Try.prog W .any base t v)
    (hW : DataW.Whole enc Try.prog Try.f7.params.toList Rows.transferTrueSpec.vars false W args.toList ds gs before)
    (hsz : (DataW.weightsEach Try.prog (Try.f7.params.toList ++ Rows.transferTrueSpec.plain.varTypes Try.prog) (ds ++ gs)).all (· ≤ reachBytes) = true) :
    Calls Try.prog 7 args W fun e W' => ∃ v, e = .returned v ∧ Rows.transferTrueSpec.post enc Try.prog Try.f7 false true false false W args v W' := by
  have hW' := hW
  obtain ⟨p, q, hA0, hV, rfl, _, _⟩ := hW
  have hlt : ∀ x ∈ p ++ q, x.block < W.heap.size := fun x hx => hW'.lt x hx
  have hA : DataW.TrodAll enc Try.prog W 0 (fun _ => true) true Try.f7.params.toList args.toList ds p := hA0
  clear hA0
  rw [Try.params7] at hA hval
  obtain ⟨v0, vs0, d0, ds0, p0, q0, hargs, rfl, rfl, t0, g0⟩ := trodAll_cons hA
  obtain ⟨v1, vs1, d1, ds1, p1, q1, rfl, rfl, rfl, t1, g1⟩ := trodAll_cons g0
  obtain ⟨v2, vs2, d2, ds2, p2, q2, rfl, rfl, rfl, t2, g2⟩ := trodAll_cons g1
  obtain ⟨rfl, rfl, rfl⟩ := trodAll_nil g2
  obtain rfl : args = #[v0, v1, v2] := by cases args; simp_all
  obtain ⟨rfl, rfl⟩ := trodVars_none hV
  obtain ⟨A0, c0, z0, rfl, r0, wf0, k0, cm0, e0⟩ := open_row (k := .i64) Try.underlying22 Try.underlying3 (by kernel_rfl) (hval 0 22 v0 rfl rfl) t0 (fun x hx => hlt x (by simp [hx]))
  have w0 : ∀ z ∈ z0, -9223372036854775808 ≤ z ∧ z ≤ 9223372036854775807 := fun z hz => by have := wf0 z hz; simp [Lit.wf, IntKind.min, IntKind.max, IntKind.signed, IntKind.bits] at this; omega
  have m0 := reach_row hsz (j := 0) (t := 22) (e := 3) rfl rfl Try.underlying22 e0
  rw [show Try.prog.bytesOf 3 = 8 by kernel_rfl] at m0
  unfold reachBytes at m0
  obtain ⟨A1, c1, z1, rfl, r1, w1, k1, cm1, e1, b1, l1⟩ := open_rowsK (f := pkC) (Good := PkG W) (K := fun x : Pk => x.p.zs.length) (c := 5) Try.underlying49 (by kernel_rfl) (by omega) (fun _ => rfl) (fun n cs' y h' hp' => open_packetC h' hp') (hval 1 49 v1 rfl rfl) t1 (fun x hx => hlt x (by simp [hx]))
  have m1 := reach_rows hsz (j := 1) (t := 49) (e := 55) rfl rfl Try.underlying49 e1
  rw [show Try.prog.bytesOf 55 = 56 by kernel_rfl] at m1
  unfold reachBytes at m1
  obtain ⟨A2, c2, z2, rfl, r2, w2, k2, cm2, e2⟩ := open_rowsW (f := chC) (Good := fun c : ChZ => WfI c.id ∧ Row W W.heap.size c.p.A (c.p.zs.map (.int .u8)) ∧ Byt c.p.zs ∧ c.p.zs.length ≤ c.p.cap ∧ c.p.cap ≤ maxLen) (K := ChW) (c := 3) Try.underlying29 (by kernel_rfl) (by omega) (fun _ => rfl) (fun n cs' y h' hp' => open_chunkW h' hp') (hval 2 29 v2 rfl rfl) t2 (fun x hx => hlt x (by simp [hx]))
  have q2 := reach_chunkW hsz (j := 2) rfl rfl e2
  have m2 := reach_rows hsz (j := 2) (t := 29) (e := 64) rfl rfl Try.underlying29 (e2.imp id (fun ⟨el, sp, h1, h2, _⟩ => ⟨el, sp, h1, h2⟩))
  rw [show Try.prog.bytesOf 64 = 40 by kernel_rfl] at m2
  unfold reachBytes at m2
  refine (lawTTrue_any A0 c0 z0 A1 c1 z1 A2 c2 z2 W r0 w0 (by have := cm0; unfold maxLen at this; omega) r1 (fun x hx => ⟨(w1 x hx).1.1, (w1 x hx).1.2, (w1 x hx).2.1, by have := (w1 x hx).2.2; unfold maxLen at this; omega⟩) (by omega) r2 (fun c hc => ⟨(w2 c hc).1, (w2 c hc).2.1, (w2 c hc).2.2.1, (w2 c hc).2.2.2.1, q2 c hc⟩) (by omega)).mono fun e W' ⟨he, hb⟩ => ?_
  subst he
  exact ⟨_, rfl, law_post (T := 4) laidOut (by kernel_rfl) (by kernel_rfl) Try.underlying4 rfl hW' rfl hb⟩

set_option maxRecDepth 100000 in
theorem transferTrue_lifted (os : Os) (started : os.Started) (H : Type) (enc : TypeId × Value → H) :
    ReturnsInHanded {} Try.checked os 7 .any (Rows.transferTrueSpec.pre6 enc Try.prog Try.f7 Rows.transferTrueRow.domain false) (Rows.transferTrueSpec.post enc Try.prog Try.f7 false true false false) := by
  refine returnsInHanded_of_change_sized (C := Try.checked) own started (by kernel_rfl) Try.func7
    (ChangeSpec.witness6 (enc := enc) (C := Try.checked) false ⟨#[], #[.slice none 0 0, .slice none 0 0, .slice none 0 0], []⟩ 8 (by kernel_rfl) (by kernel_rfl) (by kernel_rfl) (by kernel_rfl)) ?_
  intro W base args ds gs before hval hW _ hsz _
  exact transferTrue_contract H enc W base args ds gs before hval hW hsz

theorem transferTrue_holds : Rows.TransferTrueSaid :=
  OpenClaim.holds_of_wide 7 Try.f7 rfl rfl rfl rfl rfl rfl rfl ⟨rfl, rfl, rfl, rfl, rfl⟩ rfl rfl rfl rfl rfl (by kernel_rfl) Try.func7 (by kernel_rfl)
    (of_decide_eq_true (by kernel_rfl)) (by unfold Func.isWrapper; first | (rw [if_pos (by decide +kernel)]; kernel_rfl) | (rw [if_neg (by decide +kernel)]; exact ⟨rfl, rfl⟩))
    (fun os started H enc _ => transferTrue_lifted os started H enc)

end Go.Proofs.Ytpoiejgoongllaa
