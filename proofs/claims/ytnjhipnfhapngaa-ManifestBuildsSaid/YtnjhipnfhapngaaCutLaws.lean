/-
  Chunks as plain lists: where the first chunk of a list of bytes ends; the lengths of all chunks; what follows from it. No program in sight.
-/
import Derived.Test.YtnjhipnfhapngaaRollLaws
namespace Go.Proofs.Ytnjhipnfhapngaa
set_option linter.unusedVariables false
set_option linter.unusedSimpArgs false
set_option linter.unnecessarySimpa false

/-- parameters: the least and the greatest length, the window, the mask -/
structure CutZ where
  mn : Nat
  mx : Nat
  wn : Nat
  mask : Int
structure CutZ.Ok (c : CutZ) : Prop where
  w1 : 1 ≤ c.wn
  w64 : c.wn ≤ 64
  wm : c.wn ≤ c.mn
  mm : c.mn ≤ c.mx
  mx : c.mx ≤ 8192
  m0 : 0 ≤ c.mask
  m1 : c.mask < 18446744073709551616
/-- are all bits of the mask 0 in s? -/
def maskZ (m s : Int) : Bool := decide (bits .and .u64 m s = 0)
/-- is a chunk of length L complete, whose last bytes have the fingerprint s? -/
def stopZ (c : CutZ) (L : Nat) (s : Int) : Bool := decide (c.mn ≤ L) && (decide (c.mx ≤ L) || maskZ c.mask s)
/-- .. of the first e bytes of l -/
def endL (c : CutZ) (l : List Int) (e : Nat) : Bool := stopZ c e (sumZ (lastN c.wn (l.take e)))
theorem stopZ_short {c : CutZ} {L : Nat} {s : Int} (h : L < c.mn) : stopZ c L s = false := by
  unfold stopZ; rw [decide_eq_false (by omega)]; rfl
theorem endL_short {c : CutZ} {l : List Int} {e : Nat} (h : e < c.mn) : endL c l e = false := stopZ_short h
theorem endL_max {c : CutZ} (ok : c.Ok) {l : List Int} {e : Nat} (h : c.mx ≤ e) : endL c l e = true := by
  have := ok.mm
  unfold endL stopZ; rw [decide_eq_true (by omega : c.mn ≤ e), decide_eq_true h]; rfl
theorem endL_take {c : CutZ} {l l' : List Int} {e : Nat} (h : l.take e = l'.take e) : endL c l e = endL c l' e := by unfold endL; rw [h]

/-- the last bytes of a list's end are the last bytes of the list -/
theorem lastN_suffix {n : Nat} (p l : List Int) (h : n ≤ l.length) : lastN n (p ++ l) = lastN n l := lastN_append h
/-- a chunk's test looks at the chunk alone, whatever was ahead of it -/
theorem stop_chunk {c : CutZ} (ok : c.Ok) (p l : List Int) : stopZ c l.length (sumZ (lastN c.wn (p ++ l))) = endL c l l.length := by
  unfold endL
  rw [List.take_length]
  rcases Nat.lt_or_ge l.length c.mn with h | h
  · rw [stopZ_short h, stopZ_short h]
  · rw [lastN_suffix p l (by have := ok.wm; omega)]

/-- where the first chunk of l ends, if it is complete -/
def nxtL (c : CutZ) (l : List Int) : Option Nat := ((List.range l.length).map (· + 1)).find? (endL c l)
theorem nxtL_some {c : CutZ} {l : List Int} {e : Nat} : nxtL c l = some e ↔ (1 ≤ e ∧ e ≤ l.length ∧ endL c l e = true ∧ ∀ e', 1 ≤ e' → e' < e → endL c l e' = false) := by
  unfold nxtL
  rw [List.find?_eq_some_iff_getElem]
  constructor
  · rintro ⟨h1, i, hi, he, hall⟩
    simp only [List.length_map, List.length_range] at hi
    simp only [List.getElem_map, List.getElem_range] at he
    subst he
    refine ⟨by omega, by omega, h1, fun e' h0 h2 => ?_⟩
    have := hall (e' - 1) (by omega)
    simp only [List.getElem_map, List.getElem_range] at this
    rw [show e' - 1 + 1 = e' by omega] at this
    simpa using this
  · rintro ⟨h0, h1, h2, h3⟩
    refine ⟨h2, e - 1, by simp; omega, by simp; omega, fun j hj => ?_⟩
    simp only [List.getElem_map, List.getElem_range]
    rw [h3 (j + 1) (by omega) (by omega)]
    rfl
theorem nxtL_none {c : CutZ} {l : List Int} : nxtL c l = none ↔ ∀ e, 1 ≤ e → e ≤ l.length → endL c l e = false := by
  unfold nxtL
  rw [List.find?_eq_none]
  constructor
  · intro h e h0 h1
    have := h e (List.mem_map.2 ⟨e - 1, List.mem_range.2 (by omega), by omega⟩)
    simpa using this
  · intro h e he
    obtain ⟨i, hi, rfl⟩ := List.mem_map.1 he
    have := List.mem_range.1 hi
    rw [h (i + 1) (by omega) (by omega)]
    simp
theorem nxtL_bd {c : CutZ} (ok : c.Ok) {l : List Int} {e : Nat} (h : nxtL c l = some e) : c.mn ≤ e ∧ e ≤ c.mx ∧ e ≤ l.length ∧ 1 ≤ e := by
  obtain ⟨h0, h1, h2, h3⟩ := nxtL_some.1 h
  have a1 := ok.mm
  have a2 := ok.wm
  have a3 := ok.w1
  refine ⟨?_, ?_, h1, h0⟩
  · rcases Nat.lt_or_ge e c.mn with h | h
    · rw [endL_short h] at h2; cases h2
    · exact h
  · rcases Nat.lt_or_ge c.mx e with h | h
    · have := h3 c.mx (by omega) h
      rw [endL_max ok (Nat.le_refl _)] at this
      cases this
    · exact h
theorem nxtL_none_lt {c : CutZ} (ok : c.Ok) {l : List Int} (h : nxtL c l = none) : l.length < c.mx := by
  have a1 := ok.mm
  have a2 := ok.wm
  have a3 := ok.w1
  rcases Nat.lt_or_ge l.length c.mx with h' | h'
  · exact h'
  · have := nxtL_none.1 h c.mx (by omega) h'
    rw [endL_max ok (Nat.le_refl _)] at this
    cases this
/-- lists that agree up to the chunk's end have the same first chunk -/
theorem nxtL_agree {c : CutZ} {l l' : List Int} {e : Nat} (h : nxtL c l = some e) (hl : e ≤ l'.length) (ht : l.take e = l'.take e) : nxtL c l' = some e := by
  obtain ⟨h0, h1, h2, h3⟩ := nxtL_some.1 h
  have hk : ∀ k, k ≤ e → endL c l' k = endL c l k := fun k hk => endL_take (by
    have := congrArg (List.take k) ht
    rw [List.take_take, List.take_take, Nat.min_eq_left hk] at this
    exact this.symm)
  refine nxtL_some.2 ⟨h0, hl, by rw [hk e (Nat.le_refl _)]; exact h2, fun e' a b => by rw [hk e' (by omega)]; exact h3 e' a b⟩
theorem nxtL_append {c : CutZ} {l r : List Int} {e : Nat} (h : nxtL c l = some e) : nxtL c (l ++ r) = some e := by
  have h1 := (nxtL_some.1 h).2.1
  exact nxtL_agree h (by rw [List.length_append]; omega) (by rw [List.take_append_of_le_length h1])
/-- one byte more -/
theorem nxtL_snoc {c : CutZ} {l : List Int} {b : Int} (h : nxtL c l = none) : nxtL c (l ++ [b]) = if endL c (l ++ [b]) (l.length + 1) = true then some (l.length + 1) else none := by
  have hk : ∀ k, k ≤ l.length → endL c (l ++ [b]) k = endL c l k := fun k hk => endL_take (List.take_append_of_le_length hk)
  split
  · rename_i he
    exact nxtL_some.2 ⟨by omega, by simp, he, fun e' a b' => by rw [hk e' (by omega)]; exact nxtL_none.1 h e' a (by omega)⟩
  · rename_i he
    refine nxtL_none.2 fun e a b' => ?_
    rw [List.length_append, List.length_singleton] at b'
    rcases Nat.lt_or_ge l.length e with h2 | h2
    · rw [show e = l.length + 1 by omega]; simpa using he
    · rw [hk e h2]; exact nxtL_none.1 h e a h2
theorem nxtL_nil {c : CutZ} : nxtL c [] = none := rfl

/-- the lengths of the chunks of l -/
def lensF (c : CutZ) : Nat → List Int → List Nat
  | 0, _ => []
  | f + 1, l => if l = [] then [] else match nxtL c l with
    | some e => e :: lensF c f (l.drop e)
    | none => [l.length]
def lensZ (c : CutZ) (l : List Int) : List Nat := lensF c l.length l
theorem lensF_fuel {c : CutZ} (ok : c.Ok) : ∀ (f g : Nat) (l : List Int), l.length ≤ f → l.length ≤ g → lensF c f l = lensF c g l := by
  intro f
  induction f with
  | zero =>
    intro g l hf hg
    have : l = [] := List.eq_nil_of_length_eq_zero (by omega)
    subst this
    cases g <;> simp [lensF]
  | succ f ih =>
    intro g l hf hg
    cases g with
    | zero =>
      have : l = [] := List.eq_nil_of_length_eq_zero (by omega)
      subst this
      simp [lensF]
    | succ g =>
      simp only [lensF]
      by_cases hl : l = []
      · rw [if_pos hl, if_pos hl]
      · rw [if_neg hl, if_neg hl]
        cases h : nxtL c l with
        | none => rfl
        | some e =>
          have := nxtL_bd ok h
          simp only
          rw [ih g (l.drop e) (by rw [List.length_drop]; omega) (by rw [List.length_drop]; omega)]
theorem lensZ_nil {c : CutZ} : lensZ c [] = [] := rfl
theorem lensZ_some {c : CutZ} (ok : c.Ok) {l : List Int} {e : Nat} (h : nxtL c l = some e) : lensZ c l = e :: lensZ c (l.drop e) := by
  have hb := nxtL_bd ok h
  have hl : l ≠ [] := fun k => by subst k; simp at hb; omega
  unfold lensZ
  cases hn : l.length with
  | zero => exact absurd (List.eq_nil_of_length_eq_zero hn) hl
  | succ n =>
    simp only [lensF]
    rw [if_neg hl, h]
    simp only
    rw [lensF_fuel ok n (l.drop e).length (l.drop e) (by rw [List.length_drop]; omega) (Nat.le_refl _)]
theorem lensZ_none {c : CutZ} {l : List Int} (hl : l ≠ []) (h : nxtL c l = none) : lensZ c l = [l.length] := by
  unfold lensZ
  cases hn : l.length with
  | zero => exact absurd (List.eq_nil_of_length_eq_zero hn) hl
  | succ n => simp only [lensF]; rw [if_neg hl, h, hn]

/-- induction over the chunks -/
theorem chunk_rec {c : CutZ} (ok : c.Ok) {P : List Int → Prop} (h0 : P []) (h1 : ∀ l, l ≠ [] → nxtL c l = none → P l) (h2 : ∀ l e, nxtL c l = some e → P (l.drop e) → P l) : ∀ l, P l := by
  suffices h : ∀ n l, l.length = n → P l from fun l => h l.length l rfl
  intro n
  induction n using Nat.strongRecOn with
  | _ n ih =>
    intro l hl
    by_cases hn : l = []
    · subst hn; exact h0
    · cases h : nxtL c l with
      | none => exact h1 l hn h
      | some e =>
        have hb := nxtL_bd ok h
        exact h2 l e h (ih (l.drop e).length (by rw [List.length_drop]; omega) _ rfl)

/-- the ends: sums of lengths -/
def psums : Nat → List Nat → List Nat
  | _, [] => []
  | s, n :: ns => (s + n) :: psums (s + n) ns
/-- the end offsets of the chunks -/
def endsZ (c : CutZ) (l : List Int) : List Nat := psums 0 (lensZ c l)
theorem psums_length (ns : List Nat) : ∀ s, (psums s ns).length = ns.length := by
  induction ns with
  | nil => exact fun _ => rfl
  | cons n ns ih => intro s; simp [psums, ih]
theorem psums_shift (ns : List Nat) : ∀ s t, psums (s + t) ns = (psums s ns).map (· + t) := by
  induction ns with
  | nil => exact fun _ _ => rfl
  | cons n ns ih =>
    intro s t
    simp only [psums, List.map_cons]
    rw [show s + t + n = s + n + t by omega, ih (s + n) t]
theorem psums_append (xs ys : List Nat) : ∀ s, psums s (xs ++ ys) = psums s xs ++ psums (s + xs.sum) ys := by
  induction xs with
  | nil => intro s; simp [psums]
  | cons n ns ih => intro s; simp only [List.cons_append, psums, List.sum_cons]; rw [ih, Nat.add_assoc]
theorem endsZ_some {c : CutZ} (ok : c.Ok) {l : List Int} {e : Nat} (h : nxtL c l = some e) : endsZ c l = e :: (endsZ c (l.drop e)).map (· + e) := by
  unfold endsZ
  rw [lensZ_some ok h]
  simp only [psums, Nat.zero_add]
  have := psums_shift (lensZ c (l.drop e)) 0 e
  rw [Nat.zero_add] at this
  rw [this]
theorem lensZ_sum {c : CutZ} (ok : c.Ok) : ∀ l, (lensZ c l).sum = l.length := by
  refine chunk_rec ok rfl (fun l hl h => ?_) (fun l e h ih => ?_)
  · rw [lensZ_none hl h]; simp
  · have := nxtL_bd ok h
    rw [lensZ_some ok h, List.sum_cons, ih, List.length_drop]; omega
theorem lensZ_pos {c : CutZ} (ok : c.Ok) : ∀ l, ∀ n ∈ lensZ c l, 1 ≤ n ∧ n ≤ c.mx := by
  refine chunk_rec ok (by simp [lensZ_nil]) (fun l hl h n hn => ?_) (fun l e h ih n hn => ?_)
  · rw [lensZ_none hl h, List.mem_singleton] at hn
    have := nxtL_none_lt ok h
    have : 0 < l.length := List.length_pos_iff.2 hl
    omega
  · rw [lensZ_some ok h, List.mem_cons] at hn
    rcases hn with rfl | hn
    · have := nxtL_bd ok h; omega
    · exact ih n hn
/-- all but the last are at least mn -/
theorem lensZ_min {c : CutZ} (ok : c.Ok) : ∀ l, ∀ i, i + 1 < (lensZ c l).length → ∀ n, (lensZ c l)[i]? = some n → c.mn ≤ n := by
  refine chunk_rec ok (by simp [lensZ_nil]) (fun l hl h i hi => ?_) (fun l e h ih i hi n hn => ?_)
  · rw [lensZ_none hl h] at hi; simp at hi
  · rw [lensZ_some ok h] at hi hn
    cases i with
    | zero => simp at hn; subst hn; exact (nxtL_bd ok h).1
    | succ i => exact ih i (by simpa using hi) n (by simpa using hn)
theorem endsZ_length {c : CutZ} (l : List Int) : (endsZ c l).length = (lensZ c l).length := psums_length _ _

end Go.Proofs.Ytnjhipnfhapngaa
