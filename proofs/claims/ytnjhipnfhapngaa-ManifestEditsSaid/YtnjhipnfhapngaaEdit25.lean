/-
  Pieces ahead of an edit are the same.
-/
import Derived.Test.YtnjhipnfhapngaaBuild25
import Derived.Test.YtnjhipnfhapngaaMiss25
namespace Go.Proofs.Ytnjhipnfhapngaa
set_option linter.unusedVariables false
set_option linter.unusedSimpArgs false
set_option linter.unnecessarySimpa false
open Go.RowKit

theorem cutsL_get : ∀ (ns : List Nat) (l : List Int) (k : Nat) (h : k < ns.length), (cutsL ns l)[k]? = some ((l.drop (ns.take k).sum).take ns[k])
  | n :: ns, l, 0, _ => by simp [cutsL]
  | n :: ns, l, k + 1, h => by
    have h' : k < ns.length := by simpa using h
    have := cutsL_get ns (l.drop n) k h'
    rw [List.drop_drop] at this
    simp only [cutsL, List.getElem?_cons_succ, List.getElem_cons_succ, List.take_succ_cons, List.sum_cons]
    exact this
theorem ends_sum {c : CutZ} {l : List Int} {k e : Nat} (h : (endsZ c l)[k]? = some e) : k < (lensZ c l).length ∧ ((lensZ c l).take (k + 1)).sum = e := by
  obtain ⟨hk, he⟩ := List.getElem?_eq_some_iff.1 h
  have hk' : k < (lensZ c l).length := by rw [← endsZ_length]; exact hk
  refine ⟨hk', ?_⟩
  unfold endsZ at hk he
  rw [psums_get _ 0 k hk' hk] at he
  omega
theorem pcs_common {c : CutZ} (ok : c.Ok) {h r1 r2 : List Int} {k e : Nat} (he : (endsZ c (h ++ r2))[k]? = some e) (hlt : e < h.length) : (pcsZ c (h ++ r1))[k]? = (pcsZ c (h ++ r2))[k]? := by
  have he1 := endsZ_common ok k h r2 r1 e he (.inl hlt)
  obtain ⟨k2, s2⟩ := ends_sum he
  obtain ⟨k1, s1⟩ := ends_sum he1
  unfold pcsZ
  rw [cutsL_get _ _ _ k1, cutsL_get _ _ _ k2]
  have hp : ((lensZ c (h ++ r1)).take k).sum = ((lensZ c (h ++ r2)).take k).sum := by
    cases k with
    | zero => simp
    | succ k =>
      have hk2 : k < (endsZ c (h ++ r2)).length := by rw [endsZ_length]; omega
      have hm := List.getElem?_eq_getElem hk2
      obtain ⟨_, s2'⟩ := ends_sum hm
      have hle : (endsZ c (h ++ r2))[k] ≤ e := by
        rw [← s2', ← s2, take_sum_succ (lensZ c (h ++ r2)) (k + 1) k2]; omega
      obtain ⟨_, s1'⟩ := ends_sum (endsZ_common ok k h r2 r1 _ hm (.inl (by omega)))
      rw [s1', s2']
  have t1 := take_sum_succ (lensZ c (h ++ r1)) k k1
  have t2 := take_sum_succ (lensZ c (h ++ r2)) k k2
  have hn : (lensZ c (h ++ r1))[k] = (lensZ c (h ++ r2))[k] := by omega
  rw [hp, hn]
  have hs : ((lensZ c (h ++ r2)).take k).sum + (lensZ c (h ++ r2))[k] < h.length := by omega
  generalize ((lensZ c (h ++ r2)).take k).sum = s at *
  generalize (lensZ c (h ++ r2))[k] = n at *
  rw [List.drop_append_of_le_length (by omega), List.drop_append_of_le_length (by omega), List.take_append_of_le_length (by rw [List.length_drop]; omega), List.take_append_of_le_length (by rw [List.length_drop]; omega)]
theorem missL_not {hv : List IdZ} {x : IdZ} (h : x ∈ hv) (l : List IdZ) : ¬ x ∈ missL hv l := by
  have : ∀ k, k ≤ l.length → ¬ x ∈ missL hv (l.take k) := by
    intro k
    induction k with
    | zero => intro _; simp [missL]
    | succ k ih =>
      intro hk
      rw [missL_take (by omega)]
      have ih' := ih (by omega)
      split
      · exact ih'
      · rename_i hn
        rw [List.mem_append, List.mem_singleton]
        rintro (h1 | h1)
        · exact ih' h1
        · subst h1; exact hn (.inl h)
  have := this l.length (Nat.le_refl _)
  rwa [List.take_length] at this
/-- a chunk that ends ahead of the edit is among those of the old text -/
theorem edit_has {c : CutZ} (ok : c.Ok) {h r1 r2 : List Int} {ps qs : List Part} (hp : ps.map Part.zs = pcsZ c (h ++ r1)) (hq : qs.map Part.zs = pcsZ c (h ++ r2)) {k e : Nat} (hk : k < qs.length) (he : (endsZ c (h ++ r2))[k]? = some e) (hlt : e < h.length) :
    ¬ idOf qs[k].zs ∈ missL (idsOf ps) (idsOf qs) := by
  apply missL_not
  have hz : (qs.map Part.zs)[k]? = some qs[k].zs := by rw [List.getElem?_map, List.getElem?_eq_getElem hk]; rfl
  rw [hq, ← pcs_common (r1 := r1) ok he hlt, ← hp, List.getElem?_map] at hz
  cases hx : ps[k]? with
  | none => rw [hx] at hz; cases hz
  | some p =>
    rw [hx] at hz
    have e2 : p.zs = qs[k].zs := by simpa using hz
    rw [← e2]
    exact List.mem_map.2 ⟨p, List.mem_of_getElem? hx, rfl⟩

theorem endsC_any (c : CutZ) (ok : c.Ok) (A : Option Addr) (cap B : Nat) (zs : List Int) (w : World) (hr : Row w B A (zs.map (.int .u8))) (hB : B ≤ w.heap.size) (hz : ∀ z ∈ zs, 0 ≤ z ∧ z ≤ 255) (hm : zs.length ≤ 1048576) :
    Calls Try.prog 54 #[.agg #[.int .i64 c.mn, .int .i64 c.mx, .int .i64 c.wn, .int .u64 c.mask], .slice A zs.length cap] w fun e w' => ∃ A' cap', e = .returned (.tuple #[.slice A' (endsZ c zs).length cap', .int .i64 0]) ∧
      w'.ownsRow w.heap.size 3 1 (.slice A' (endsZ c zs).length cap') (endsZ c zs).length (natV (endsZ c zs)) ∧ Below w.heap.size w w' := ends_any c ok A cap B zs w hr hB hz hm

end Go.Proofs.Ytnjhipnfhapngaa
