/-
  The row of stockyardlaw37.TransferCarries where what it reads is of bulk at most 1048576: the law returns true, and each argument reads as before.
-/
import Derived.Test.YtpoiejgoongllaaLawTCarries
import Derived.Test.YtpoiejgoongllaaBulk
import Derived.Test.YtpoiejgoongllaaOpenPk37
namespace Go.Proofs.Ytpoiejgoongllaa
set_option linter.unusedVariables false
set_option linter.unusedSimpArgs false
set_option linter.unnecessarySimpa false
open Go.ChangeShapes Go.WideShapes Go.ChangeAt Go.RowKit Go.Joins

set_option maxRecDepth 100000 in
theorem transferCarries_contract (H : Type) (enc : TypeId × Value → H) (W : World) (base : Nat) (args : Array Value) (ds gs : List (DataW H)) (before : List MemPlace)
    (hval : ∀ (j : Nat) t v, Try.f8.params[j]? = some t → args[j]? = some v → Value.okWide Try.prog W .any base t v)
    (hW : DataW.Whole enc Try.prog Try.f8.params.toList Rows.transferCarriesSpec.vars false W args.toList ds gs before)
    (hk : Rows.uptoSmall H (ds ++ gs) = true) :
    Calls Try.prog 8 args W fun e W' => ∃ v, e = .returned v ∧ Rows.transferCarriesSpec.post enc Try.prog Try.f8 false true false false W args v W' := by
  have hW' := hW
  obtain ⟨p, q, hA0, hV, rfl, _, _⟩ := hW
  have hlt : ∀ x ∈ p ++ q, x.block < W.heap.size := fun x hx => hW'.lt x hx
  have hA : DataW.TrodAll enc Try.prog W 0 (fun _ => true) true Try.f8.params.toList args.toList ds p := hA0
  clear hA0
  rw [Try.params8] at hA hval
  obtain ⟨v0, vs0, d0, ds0, p0, q0, hargs, rfl, rfl, t0, g0⟩ := trodAll_cons hA
  obtain ⟨v1, vs1, d1, ds1, p1, q1, rfl, rfl, rfl, t1, g1⟩ := trodAll_cons g0
  obtain ⟨v2, vs2, d2, ds2, p2, q2, rfl, rfl, rfl, t2, g2⟩ := trodAll_cons g1
  obtain ⟨rfl, rfl, rfl⟩ := trodAll_nil g2
  obtain rfl : args = #[v0, v1, v2] := by cases args; simp_all
  obtain ⟨rfl, rfl⟩ := trodVars_none hV
  obtain ⟨A0, c0, z0, rfl, r0, w0, k0, cm0, e0, b0, l0⟩ := open_rowsK (f := pkC) (Good := PkG W) (K := fun x : Pk => x.p.zs.length) (c := 5) Try.underlying49 (by kernel_rfl) (by omega) (fun _ => rfl) (fun n cs' y h' hp' => open_packetC h' hp') (hval 0 49 v0 rfl rfl) t0 (fun x hx => hlt x (by simp [hx]))
  have m0 : z0.length ≤ 1048576 := Nat.le_trans l0 (bulk_ds hk (j := 0) rfl)
  have n0 := fun x hx => Nat.le_trans (b0 x hx) (bulk_ds hk (j := 0) rfl)
  obtain ⟨A1, c1, z1, rfl, r1, w1, k1, cm1, e1, b1, l1⟩ := open_rowsK (f := ftC) (Good := FtOk) (K := fun _ => 0) (c := 3) Try.underlying84 (by kernel_rfl) (by omega) (fun _ => rfl) (fun n cs' y h' _ => by obtain ⟨x, e, g⟩ := open_faultC h'; exact ⟨x, e, g, Nat.zero_le _⟩) (hval 1 84 v1 rfl rfl) t1 (fun x hx => hlt x (by simp [hx]))
  have m1 : z1.length ≤ 1048576 := Nat.le_trans l1 (bulk_ds hk (j := 1) rfl)
  have n1 := fun x hx => Nat.le_trans (b1 x hx) (bulk_ds hk (j := 1) rfl)
  obtain ⟨A2, c2, z2, rfl, r2, wf2, k2, cm2, e2⟩ := open_row (k := .i64) Try.underlying22 Try.underlying3 (by kernel_rfl) (hval 2 22 v2 rfl rfl) t2 (fun x hx => hlt x (by simp [hx]))
  have w2 : ∀ z ∈ z2, -9223372036854775808 ≤ z ∧ z ≤ 9223372036854775807 := fun z hz => by have := wf2 z hz; simp [Lit.wf, IntKind.min, IntKind.max, IntKind.signed, IntKind.bits] at this; omega
  have m2 := bulk_row hk (j := 2) rfl e2
  refine (lawTCarries_any A0 c0 z0 A1 c1 z1 A2 c2 z2 W r0 (fun x hx => ⟨(w0 x hx).2.1, Nat.le_trans (n0 x hx) (by omega)⟩) m0 r1 w1 m1 r2 w2 (by omega)).mono fun e W' ⟨he, hb⟩ => ?_
  subst he
  exact ⟨_, rfl, law_post (T := 4) laidOut (by kernel_rfl) (by kernel_rfl) Try.underlying4 rfl hW' rfl hb⟩

set_option maxRecDepth 100000 in
theorem transferCarries_lifted (os : Os) (started : os.Started) (H : Type) (enc : TypeId × Value → H) (F : Stop.Interp) :
    ReturnsInHanded {} Try.checked os 8 .any ((Rows.OpenSpec.upto Rows.transferCarriesSpec).pre6 enc Try.prog Try.f8 Rows.transferCarriesUptoRow.domain false) (((Rows.OpenSpec.upto Rows.transferCarriesSpec).at F).post enc Try.prog Try.f8 false true false false) := by
  refine returnsInHanded_of_cond (C := Try.checked) (s := Rows.OpenSpec.upto Rows.transferCarriesSpec) (k := Rows.uptoSmall) rfl own started (by kernel_rfl) Try.func8
    (OpenSpec.witness (enc := enc) (C := Try.checked) (s := Rows.OpenSpec.upto Rows.transferCarriesSpec) (k := Rows.uptoSmall) rfl false ⟨#[], #[.slice none 0 0, .slice none 0 0, .slice none 0 0], []⟩ 8 (by kernel_rfl) (by kernel_rfl) (by kernel_rfl)
      (x := ([.nil, .nil, .nil], [], [])) (by kernel_rfl) rfl (by kernel_rfl)) ?_
  intro W base args ds gs before hval hW _ hk _
  exact transferCarries_contract H enc W base args ds gs before hval hW hk

theorem transferCarries_upto_holds : Rows.TransferCarriesUptoSaid :=
  OpenClaim.holds_of_cond 8 Try.f8 rfl rfl rfl rfl rfl rfl rfl ⟨rfl, rfl, rfl, rfl, rfl⟩ rfl rfl rfl rfl rfl (by kernel_rfl) Try.func8 (by kernel_rfl)
    (of_decide_eq_true (by kernel_rfl)) (by unfold Func.isWrapper; first | (rw [if_pos (by decide +kernel)]; kernel_rfl) | (rw [if_neg (by decide +kernel)]; exact ⟨rfl, rfl⟩))
    (fun os started H enc _ F => transferCarries_lifted os started H enc F)

end Go.Proofs.Ytpoiejgoongllaa
