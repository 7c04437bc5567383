/-
  Whatever Assemble returns has the ID of the manifest.
-/
import Derived.Test.YtpoiejgoongllaaBack25
namespace Go.Proofs.Ytpoiejgoongllaa
set_option linter.unusedVariables false
set_option linter.unusedSimpArgs false
set_option linter.unnecessarySimpa false
open Go.RowKit

theorem rgE_all {l : List ChZ} {ids : List IdZ} : ∀ {ps : List PcZ}, rgE l ids ps = 0 → ∀ p ∈ ps, pcE l ids p = 0
  | [], _, p, hp => by simp at hp
  | q :: ps, h, p, hp => by
    rw [rgE] at h
    by_cases h0 : pcE l ids q = 0
    · rw [if_pos h0] at h
      rcases List.mem_cons.1 hp with rfl | hp
      · exact h0
      · exact rgE_all h p hp
    · rw [if_neg h0] at h; exact absurd h h0
theorem slK_whole {ids : List IdZ} {n : Int} (hn : chkM n ids = 0) {i : Nat} (hi : i < ids.length) : ∃ p ∈ slK 0 n ids ids.length, p.1 = i := by
  obtain ⟨_, ho, hs, _⟩ := chkM_zero hn
  have h1 := (ok_at ho hi).1
  have h2 := sumN_take ids i hi
  have h3 := sumN_mono ho (i := i + 1) (j := ids.length) hi
  rw [List.take_length] at h3
  have h0 : 0 ≤ sumN (ids.take i) := (sumN_bd _ (all_prefix ids i ho)).1
  have hm : max (0 - sumN (ids.take i)) 0 < min (n - sumN (ids.take i)) ids[i].2 := by omega
  refine ⟨(i, max (0 - sumN (ids.take i)) 0, min (n - sumN (ids.take i)) ids[i].2), ?_, rfl⟩
  unfold slK
  refine List.mem_flatMap.2 ⟨i, List.mem_range.2 hi, ?_⟩
  have e : ids.getD i (0, 0) = ids[i] := by rw [List.getD_eq_getElem?_getD, List.getElem?_eq_getElem hi]; rfl
  rw [e]
  unfold pcAt
  rw [if_pos hm]
  exact List.mem_singleton.2 rfl
theorem true_law {ids : List IdZ} {n : Int} (hn : chkM n ids = 0) {l : List ChZ} (he : rangeE l n ids 0 n = 0) : idOf (rangeB l n ids 0 n) = whS ids ∧ ((rangeB l n ids 0 n).length : Int) = n := by
  obtain ⟨_, ho, hs, hc⟩ := chkM_zero hn
  have hb := sumN_bd ids ho
  have hsl : slE n ids 0 n = 0 := by unfold slE; rw [if_pos hn, if_neg (by omega)]
  have hr : rgE l ids (slK 0 n ids ids.length) = 0 := by unfold rangeE at he; rw [if_pos hsl] at he; exact he
  have hf : ∀ i (hi : i < ids.length), fndE l ids[i] = 0 := fun i hi => by
    obtain ⟨p, hp, hpi⟩ := slK_whole hn hi
    have := rgE_all hr p hp
    unfold pcE at this
    rw [hpi, List.getD_eq_getElem?_getD, List.getElem?_eq_getElem hi] at this
    exact this
  obtain ⟨ts, hts⟩ : ∃ ts, ts = ids.map fun x => (fndP l x).zs := ⟨_, rfl⟩
  have htl : ts.length = ids.length := by rw [hts, List.length_map]
  have hti : ts.map idOf = ids := by
    apply List.ext_getElem (by rw [List.length_map, htl])
    intro i h1 h2
    rw [List.getElem_map]
    obtain ⟨c, _, _, hid, hfp, _⟩ := fnd_len (hf i h2)
    simp only [hts, List.getElem_map]
    rw [hfp, hid]
  have hx : ∀ i (h : i < ts.length), idOf ts[i] = ids[i]'(by omega) := fun i h => by
    have e := congrArg (fun x => x[i]?) hti
    simp only [List.getElem?_map, List.getElem?_eq_getElem h, List.getElem?_eq_getElem (show i < ids.length by omega), Option.map_some, Option.some.injEq] at e
    exact e
  have hfl := sumN_texts ts
  rw [hti] at hfl
  obtain ⟨m, hm⟩ : ∃ m : Nat, n = m := ⟨ts.flatten.length, by omega⟩
  have hB : rangeB l n ids 0 n = ts.flatten := by
    unfold rangeB
    rw [if_pos he]
    have := rgB_sub (l := l) (ts := ts) (f := 0) (t := m) (fun i h hp => by
      rw [hx i h]
      simp only [hts, List.getElem_map]) ts.length (Nat.le_refl _)
    rw [hti, List.take_length, htl, subZ_whole (by omega)] at this
    rw [hm]
    exact this
  rw [hB]
  refine ⟨?_, by omega⟩
  have := whS_flat ts (by omega)
  rw [hti] at this
  exact this.symm

theorem range_byt {ids : List IdZ} {n f t : Int} {l : List ChZ} (hok : OkC l) (he : rangeE l n ids f t = 0) : Byt (rangeB l n ids f t) := by
  unfold rangeB
  rw [if_pos he]
  have hp : ∀ x, Byt (fndP l x).zs := fun x => by
    cases hc : fstC l x with
    | none => rw [(fnd_none hc).2]; intro z hz; simp at hz
    | some c =>
      by_cases hi : idOf c.p.zs = x
      · rw [(fnd_ok hc hi).2]; exact (hok c (fstC_mem hc).1).2.1
      · rw [(fnd_bad hc hi).2]; intro z hz; simp at hz
  intro z hz
  unfold rgB at hz
  obtain ⟨p, _, hzp⟩ := List.mem_flatMap.1 hz
  unfold pcB at hzp
  exact hp _ z (List.mem_of_mem_drop (List.mem_of_mem_take hzp))

end Go.Proofs.Ytpoiejgoongllaa
