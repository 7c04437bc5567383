/-
  The chunks where all are of one size: mask 0, or equal bytes. Plain Lean.
-/
import Derived.Test.YtnbbbmmpkjiejaaCutsL
import Derived.Test.YtnbbbmmpkjiejaaLawCFew
namespace Go.Proofs.Ytnbbbmmpkjiejaa
set_option linter.unusedVariables false
set_option linter.unusedSimpArgs false
set_option linter.unnecessarySimpa false

/-- all complete chunks have K bytes: then so have all chunks but the last -/
theorem lens_one {c : CutZ} (ok : c.Ok) (K : Nat) (P : List Int → Prop) (hd : ∀ l e, P l → P (l.drop e)) (hK : ∀ l e, P l → nxtL c l = some e → e = K) :
    ∀ l, P l → ∀ i, i + 1 < (lensZ c l).length → (lensZ c l)[i]? = some K := by
  refine chunk_rec ok (fun _ i hi => by simp [lensZ_nil] at hi) (fun l hl h _ i hi => by rw [lensZ_none hl h] at hi; simp at hi) (fun l e h ih hP i hi => ?_)
  rw [lensZ_some ok h] at hi ⊢
  cases i with
  | zero => rw [List.getElem?_cons_zero, hK l e hP h]
  | succ i => rw [List.getElem?_cons_succ]; exact ih (hd l e hP) i (by simpa using hi)
theorem mask_zero {s : Int} (hs : Fp s) : maskZ 0 s = true := by
  have := mask_low (j := 0) (by omega) hs
  simp at this
  exact this
theorem even_zero {c : CutZ} (ok : c.Ok) (hm : c.mask = 0) (l : List Int) : ∀ i, i + 1 < (lensZ c l).length → (lensZ c l)[i]? = some c.mn := by
  refine lens_one ok c.mn (fun _ => True) (fun _ _ _ => trivial) (fun l e _ h => ?_) l trivial
  have hb := nxtL_bd ok h
  obtain ⟨h0, h1, h2, h3⟩ := nxtL_some.1 h
  rcases Nat.lt_or_ge c.mn e with hlt | hge
  · have := h3 c.mn (by have := ok.w1; have := ok.wm; omega) hlt
    unfold endL stopZ at this
    rw [hm, mask_zero (sumZ_fp _)] at this
    simp at this
  · omega
theorem endL_same {c : CutZ} (ok : c.Ok) (x : Int) (n e : Nat) (h1 : c.mn ≤ e) (h2 : e ≤ n) : endL c (List.replicate n x) e = (decide (c.mx ≤ e) || maskZ c.mask (sumZ (List.replicate c.wn x))) := by
  have hw := ok.wm
  unfold endL stopZ lastN
  rw [List.take_replicate, Nat.min_eq_left h2, List.drop_replicate, List.length_replicate, show e - (e - c.wn) = c.wn by omega, decide_eq_true h1, Bool.true_and]
theorem even_same {c : CutZ} (ok : c.Ok) (x : Int) (n : Nat) : ∃ K, (K = c.mn ∨ K = c.mx) ∧ ∀ i, i + 1 < (lensZ c (List.replicate n x)).length → (lensZ c (List.replicate n x))[i]? = some K := by
  refine ⟨if maskZ c.mask (sumZ (List.replicate c.wn x)) = true then c.mn else c.mx, by split <;> simp, ?_⟩
  refine lens_one ok _ (fun l => ∃ n, l = List.replicate n x) (fun l e ⟨n, h⟩ => ⟨n - e, by rw [h, List.drop_replicate]⟩) (fun l e ⟨m, hl⟩ h => ?_) _ ⟨n, rfl⟩
  have hb := nxtL_bd ok h
  obtain ⟨h0, h1, h2, h3⟩ := nxtL_some.1 h
  subst hl
  rw [List.length_replicate] at h1
  have hw := ok.w1; have hwm := ok.wm; have hmm := ok.mm
  split
  · rename_i hm
    rcases Nat.lt_or_ge c.mn e with hlt | hge
    · have := h3 c.mn (by omega) hlt
      rw [endL_same ok x m _ (Nat.le_refl _) (by omega), hm, Bool.or_true] at this
      cases this
    · omega
  · rename_i hm
    rw [endL_same ok x m e hb.1 h1] at h2
    rw [Bool.or_eq_true, decide_eq_true_eq] at h2
    rcases h2 with h | h
    · omega
    · exact absurd h hm

end Go.Proofs.Ytnbbbmmpkjiejaa
