/-
  What the chunks of one list say of the chunks of another: suffixes, common beginnings, common tails, wider masks, how many there are. No program in sight.
-/
import Derived.Test.YtnjhipnfhapngaaCutLaws
namespace Go.Proofs.Ytnjhipnfhapngaa
set_option linter.unusedVariables false
set_option linter.unusedSimpArgs false
set_option linter.unnecessarySimpa false

theorem endsZ_nil {c : CutZ} : endsZ c [] = [] := rfl
theorem endsZ_none {c : CutZ} {l : List Int} (hl : l ≠ []) (h : nxtL c l = none) : endsZ c l = [l.length] := by
  unfold endsZ; rw [lensZ_none hl h]; simp [psums]
theorem endsZ_bd {c : CutZ} (ok : c.Ok) : ∀ l, ∀ e ∈ endsZ c l, 1 ≤ e ∧ e ≤ l.length := by
  refine chunk_rec ok (by simp [endsZ_nil]) (fun l hl h e he => ?_) (fun l e h ih e' he => ?_)
  · rw [endsZ_none hl h, List.mem_singleton] at he
    have : 0 < l.length := List.length_pos_iff.2 hl
    omega
  · have hb := nxtL_bd ok h
    rw [endsZ_some ok h, List.mem_cons] at he
    rcases he with rfl | he
    · omega
    · obtain ⟨x, hx, rfl⟩ := List.mem_map.1 he
      have := ih x hx
      rw [List.length_drop] at this
      omega
theorem endsZ_ne {c : CutZ} (ok : c.Ok) {l : List Int} (hl : l ≠ []) : 0 < (endsZ c l).length := by
  cases h : nxtL c l with
  | none => rw [endsZ_none hl h]; simp
  | some e => rw [endsZ_some ok h]; simp

/-- from a boundary on the ends are those of what follows it -/
theorem endsZ_suffix {c : CutZ} (ok : c.Ok) : ∀ l, ∀ k s, (endsZ c l)[k]? = some s → (endsZ c l).drop (k + 1) = (endsZ c (l.drop s)).map (· + s) := by
  refine chunk_rec ok (by simp [endsZ_nil]) (fun l hl h k s hk => ?_) (fun l e h ih k s hk => ?_)
  · rw [endsZ_none hl h] at hk ⊢
    cases k with
    | zero => simp at hk; subst hk; simp [endsZ_nil]
    | succ k => simp at hk
  · rw [endsZ_some ok h] at hk ⊢
    cases k with
    | zero => simp at hk; subst hk; simp
    | succ k =>
      rw [List.getElem?_cons_succ, List.getElem?_map] at hk
      cases hx : (endsZ c (l.drop e))[k]? with
      | none => rw [hx] at hk; simp at hk
      | some x =>
        rw [hx] at hk
        simp at hk
        subst hk
        have := ih k x hx
        rw [List.drop_succ_cons, ← List.map_drop, this, List.map_map, List.drop_drop, Nat.add_comm e x]
        congr 1
        funext y
        simp; omega

/-- lists with a common beginning have the same ends in it -/
theorem endsZ_common {c : CutZ} (ok : c.Ok) : ∀ (i : Nat) (h r1 r2 : List Int) (e : Nat), (endsZ c (h ++ r1))[i]? = some e → (e < h.length ∨ (e ≤ h.length ∧ i + 1 < (endsZ c (h ++ r1)).length)) → (endsZ c (h ++ r2))[i]? = some e := by
  intro i
  induction i with
  | zero =>
    intro h r1 r2 e he hor
    cases hn : nxtL c (h ++ r1) with
    | none =>
      by_cases hl : h ++ r1 = []
      · rw [hl, endsZ_nil] at he; simp at he
      · rw [endsZ_none hl hn] at he hor
        simp at he hor
        omega
    | some e0 =>
      rw [endsZ_some ok hn] at he
      simp at he
      subst he
      have hle : e0 ≤ h.length := by omega
      have : nxtL c (h ++ r2) = some e0 := nxtL_agree hn (by rw [List.length_append]; omega) (by rw [List.take_append_of_le_length hle, List.take_append_of_le_length hle])
      rw [endsZ_some ok this]; rfl
  | succ i ih =>
    intro h r1 r2 e he hor
    cases hn : nxtL c (h ++ r1) with
    | none =>
      by_cases hl : h ++ r1 = []
      · rw [hl, endsZ_nil] at he; simp at he
      · rw [endsZ_none hl hn] at he; simp at he
    | some e0 =>
      have hE := endsZ_some ok hn
      rw [hE] at he hor
      rw [List.getElem?_cons_succ, List.getElem?_map] at he
      cases hx : (endsZ c ((h ++ r1).drop e0))[i]? with
      | none => rw [hx] at he; simp at he
      | some x =>
        rw [hx] at he
        simp at he
        subst he
        have hle : e0 ≤ h.length := by omega
        have hn2 : nxtL c (h ++ r2) = some e0 := nxtL_agree hn (by rw [List.length_append]; omega) (by rw [List.take_append_of_le_length hle, List.take_append_of_le_length hle])
        rw [List.drop_append_of_le_length hle] at hx
        rw [List.length_cons, List.length_map, List.drop_append_of_le_length hle] at hor
        have := ih (h.drop e0) r1 r2 x hx (by rw [List.length_drop]; omega)
        rw [endsZ_some ok hn2, List.getElem?_cons_succ, List.getElem?_map, List.drop_append_of_le_length hle, this]
        rfl
/-- a longer list has at least as many chunks -/
theorem endsZ_more {c : CutZ} (ok : c.Ok) : ∀ (l r : List Int), (endsZ c l).length ≤ (endsZ c (l ++ r)).length := by
  intro l r
  revert r
  refine chunk_rec (P := fun l => ∀ r, (endsZ c l).length ≤ (endsZ c (l ++ r)).length) ok (fun r => by simp [endsZ_nil]) (fun l hl h r => ?_) (fun l e h ih r => ?_) l
  · rw [endsZ_none hl h]
    have := endsZ_ne ok (l := l ++ r) (by simp [hl])
    simp only [List.length_singleton]; omega
  · have hb := nxtL_bd ok h
    rw [endsZ_some ok h, endsZ_some ok (nxtL_append (r := r) h), List.drop_append_of_le_length hb.2.2.1]
    have := ih r
    simpa using this

/-- is p a boundary? -/
def bdZ (c : CutZ) (l : List Int) (p : Nat) : Prop := p = 0 ∨ p ∈ endsZ c l
theorem mem_suffix {c : CutZ} (ok : c.Ok) : ∀ l, ∀ s ∈ endsZ c l, ∀ q, s < q → (q ∈ endsZ c l ↔ q - s ∈ endsZ c (l.drop s)) := by
  refine chunk_rec ok (by simp [endsZ_nil]) (fun l hl h s hs q hq => ?_) (fun l e h ih s hs q hq => ?_)
  · rw [endsZ_none hl h, List.mem_singleton] at hs
    subst hs
    rw [endsZ_none hl h, List.drop_length, endsZ_nil]
    simp; omega
  · rw [endsZ_some ok h] at hs ⊢
    have key : ∀ q, e < q → (q ∈ e :: (endsZ c (l.drop e)).map (· + e) ↔ q - e ∈ endsZ c (l.drop e)) := fun q hq => by
      rw [List.mem_cons, List.mem_map]
      constructor
      · rintro (h | ⟨x, hx, rfl⟩)
        · omega
        · simpa using hx
      · intro h
        exact .inr ⟨q - e, h, by omega⟩
    rcases List.mem_cons.1 hs with rfl | hs
    · exact key q hq
    · obtain ⟨x, hx, rfl⟩ := List.mem_map.1 hs
      rw [key q (by omega), ih x hx (q - e) (by omega), List.drop_drop, Nat.add_comm e x, show q - e - x = q - (x + e) by omega]
theorem bdZ_suffix {c : CutZ} (ok : c.Ok) {l : List Int} {s q : Nat} (h : bdZ c l s) (hq : s ≤ q) : bdZ c l q ↔ bdZ c (l.drop s) (q - s) := by
  rcases Nat.lt_or_ge s q with hlt | hge
  · rcases h with rfl | h
    · simp
    · unfold bdZ
      rw [mem_suffix ok l s h q hlt]
      constructor
      · rintro (h1 | h1)
        · omega
        · exact .inr h1
      · rintro (h1 | h1)
        · omega
        · exact .inr h1
  · obtain rfl : q = s := by omega
    constructor
    · intro _; left; omega
    · intro _; exact h
/-- from a place of a common tail on at which both have a boundary the boundaries are the same -/
theorem bdZ_meets {c : CutZ} (ok : c.Ok) {a b t : List Int} {p q : Nat} (ha : bdZ c (a ++ t) (p + a.length)) (hb : bdZ c (b ++ t) (p + b.length)) (hq : p ≤ q) :
    bdZ c (a ++ t) (q + a.length) ↔ bdZ c (b ++ t) (q + b.length) := by
  have da : (a ++ t).drop (p + a.length) = t.drop p := by rw [Nat.add_comm, ← List.drop_drop, List.drop_left]
  have db : (b ++ t).drop (p + b.length) = t.drop p := by rw [Nat.add_comm, ← List.drop_drop, List.drop_left]
  rw [bdZ_suffix ok ha (by omega), bdZ_suffix ok hb (by omega), da, db, show q + a.length - (p + a.length) = q - p by omega, show q + b.length - (p + b.length) = q - p by omega]

/-- how many chunks there are -/
theorem lens_le_max {c : CutZ} (ok : c.Ok) (l : List Int) : l.length ≤ (endsZ c l).length * c.mx := by
  rw [endsZ_length, ← lensZ_sum ok l]
  have := lensZ_pos ok l
  generalize lensZ c l = ls at *
  induction ls with
  | nil => simp
  | cons n ns ih =>
    have h1 := this n (by simp)
    have h2 := ih (fun m hm => this m (by simp [hm]))
    simp only [List.sum_cons, List.length_cons, Nat.add_mul, Nat.one_mul]
    omega
theorem lens_ge_min {c : CutZ} (ok : c.Ok) : ∀ l, l ≠ [] → ((endsZ c l).length - 1) * c.mn < l.length := by
  refine chunk_rec ok (by simp) (fun l hl h _ => ?_) (fun l e h ih hl => ?_)
  · rw [endsZ_none hl h]
    have : 0 < l.length := List.length_pos_iff.2 hl
    simpa using this
  · have hb := nxtL_bd ok h
    rw [endsZ_some ok h, List.length_cons, List.length_map, Nat.add_sub_cancel]
    by_cases hd : l.drop e = []
    · rw [hd, endsZ_nil]; simp; omega
    · have h1 := ih hd
      have h2 := endsZ_ne ok hd
      rw [List.length_drop] at h1
      have h3 : (endsZ c (l.drop e)).length * c.mn = ((endsZ c (l.drop e)).length - 1) * c.mn + c.mn := by
        have h4 : (endsZ c (l.drop e)).length = ((endsZ c (l.drop e)).length - 1) + 1 := by omega
        conv => lhs; rw [h4]
        rw [Nat.add_mul, Nat.one_mul]
      omega

/-- a wider mask: all that it lets by the other one lets by -/
structure Wider (c c' : CutZ) : Prop where
  mn : c'.mn = c.mn
  mx : c'.mx = c.mx
  wn : c'.wn = c.wn
  imp : ∀ s, Fp s → maskZ c'.mask s = true → maskZ c.mask s = true
theorem endL_wider {c c' : CutZ} (h : Wider c c') {l : List Int} {e : Nat} (he : endL c' l e = true) : endL c l e = true := by
  unfold endL stopZ at he ⊢
  rw [h.mn, h.mx, h.wn] at he
  rw [Bool.and_eq_true, Bool.or_eq_true] at he ⊢
  exact ⟨he.1, he.2.imp id (h.imp _ (sumZ_fp _))⟩
theorem nxtL_wider {c c' : CutZ} (h : Wider c c') {l : List Int} {e' : Nat} (he : nxtL c' l = some e') : ∃ e, nxtL c l = some e ∧ e ≤ e' := by
  obtain ⟨h0, h1, h2, _⟩ := nxtL_some.1 he
  cases hn : nxtL c l with
  | none => have := nxtL_none.1 hn e' h0 h1; rw [endL_wider h h2] at this; cases this
  | some e =>
    refine ⟨e, rfl, ?_⟩
    rcases Nat.lt_or_ge e' e with hlt | hge
    · have := (nxtL_some.1 hn).2.2.2 e' h0 hlt
      rw [endL_wider h h2] at this; cases this
    · exact hge
theorem endsZ_wider {c c' : CutZ} (ok : c.Ok) (ok' : c'.Ok) (h : Wider c c') : ∀ (i : Nat) (l : List Int) (x y : Nat), (endsZ c l)[i]? = some x → (endsZ c' l)[i]? = some y → (∀ j, j < i → (endsZ c l)[j]? = (endsZ c' l)[j]?) → x ≤ y := by
  intro i
  induction i with
  | zero =>
    intro l x y hx hy _
    by_cases hl : l = []
    · subst hl; simp [endsZ_nil] at hx
    cases hn : nxtL c' l with
    | none =>
      rw [endsZ_none hl hn] at hy
      simp at hy
      have := (endsZ_bd ok l x (List.mem_of_getElem? hx)).2
      omega
    | some e' =>
      obtain ⟨e, he, hle⟩ := nxtL_wider h hn
      rw [endsZ_some ok' hn] at hy
      rw [endsZ_some ok he] at hx
      simp at hx hy
      omega
  | succ i ih =>
    intro l x y hx hy hall
    by_cases hl : l = []
    · subst hl; simp [endsZ_nil] at hx
    have h0 := hall 0 (by omega)
    cases hn : nxtL c' l with
    | none => rw [endsZ_none hl hn] at hy; simp at hy
    | some e' =>
      obtain ⟨e, he, hle⟩ := nxtL_wider h hn
      rw [endsZ_some ok' hn] at hy h0
      rw [endsZ_some ok he] at hx h0
      simp at h0
      subst h0
      rw [List.getElem?_cons_succ, List.getElem?_map] at hx hy
      cases hx' : (endsZ c (l.drop e))[i]? with
      | none => rw [hx'] at hx; simp at hx
      | some x' =>
        cases hy' : (endsZ c' (l.drop e))[i]? with
        | none => rw [hy'] at hy; simp at hy
        | some y' =>
          rw [hx'] at hx; rw [hy'] at hy
          simp at hx hy
          have := ih (l.drop e) x' y' hx' hy' (fun j hj => by
            have := hall (j + 1) (by omega)
            rw [endsZ_some ok he, endsZ_some ok' hn, List.getElem?_cons_succ, List.getElem?_cons_succ, List.getElem?_map, List.getElem?_map] at this
            cases h1 : (endsZ c (l.drop e))[j]? <;> cases h2 : (endsZ c' (l.drop e))[j]? <;> rw [h1, h2] at this <;> simp at this <;> simp [this])
          omega

end Go.Proofs.Ytnjhipnfhapngaa
