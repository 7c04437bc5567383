/-
  A region that draws its order, walked once: an operation may be taken first, whoever else may come before it, if it yields the same value in every
  world of a class C to which all operations of the region keep. C is closed under new blocks. What may write keeps to C by a proof of its own.
-/
import Derived.Test.YtnjhipnfhapngaaRegR
import Derived.Test.YtnjhipnfhapngaaCh
namespace Go.Proofs.Ytnjhipnfhapngaa
set_option linter.unusedVariables false
set_option linter.unusedSimpArgs false
set_option linter.unnecessarySimpa false
open Go Go.RowKit

section
variable {P : Program} {ops : Array Oper} {Q : Exit → Act → World → Prop} {md : Region.Mode} {C : World → Prop}

/-- Q, but no panic -/
def noP (Q : Exit → Act → World → Prop) : Exit → Act → World → Prop := fun e a w => match e with
  | .panic _ => False
  | e => Q e a w
theorem noP_put {o : Oper} {v : Value} : ∀ c a w, noP Q (.panic c) (a.put o.dst v) w → noP Q (.panic c) a w := fun _ _ _ h => h
theorem noP_imp : ∀ e a w, noP Q e a w → Q e a w := fun e a w h => by cases e <;> first | exact h | exact h.elim
theorem letsOut_imp {Q Q' : Exit → Act → World → Prop} (h : ∀ e a w, Q e a w → Q' e a w) : LetsOut Q → LetsOut Q' := fun ⟨a, w, k⟩ => ⟨a, w, h _ _ _ k⟩
theorem wp_impQ {Q Q' : Exit → Act → World → Prop} {o : Oper} {a : Act} {w : World} {K : Act → World → Prop} (h : ∀ e a w, Q e a w → Q' e a w) (hh : o.wp P a w K Q) : o.wp P a w K Q' := by
  unfold Oper.wp at *
  generalize (execOp a.eval o).run P w = r at *
  cases r with
  | ok n w' =>
    cases n <;> simp only [Oper.upon] at hh ⊢ <;>
      first
        | exact hh
        | exact Calls.mono hh (fun e w'' he => by cases e <;> first | exact he | exact h _ _ _ he | exact letsOut_imp h he)
  | halt x w' => cases x <;> simp only [Oper.upon] at hh ⊢ <;> first | exact hh | exact h _ _ _ hh
theorem wpOp_impQ {Q Q' : Exit → Act → World → Prop} {i : Nat} {a : Act} {w : World} {K : Act → World → Prop} (h : ∀ e a w, Q e a w → Q' e a w) (hh : wpOp P ops Q i K a w) : wpOp P ops Q' i K a w := by
  unfold wpOp at *
  split
  · rename_i ho; simp only [ho] at hh; exact hh
  · rename_i o ho
    simp only [ho] at hh
    split
    · rename_i hw; simp only [hw, if_true] at hh; exact hh.imp (wp_impQ h) (fun k => ⟨k.1, letsOut_imp h k.2⟩)
    · rename_i hw; simp only [hw] at hh; exact hh
theorem wpAny_impQ {Q Q' : Exit → Act → World → Prop} (h : ∀ e a w, Q e a w → Q' e a w) : ∀ (fuel : Nat) (listed : Array Bool) (a : Act) (w : World), wpAny P md ops Q fuel listed a w → wpAny P md ops Q' fuel listed a w
  | 0, _, _, _, hh => ⟨hh.1, h _ _ _ hh.2⟩
  | fuel + 1, _, _, _, hh => ⟨fun h0 => h _ _ _ (hh.1 h0), fun i hi => wpOp_impQ h (wpOp_mono (fun a' w' k => wpAny_impQ h fuel _ a' w' k) (hh.2 i hi))⟩

/-- in every world of C operation o yields v: at once, by a call that lays new blocks alone, or because its guard is shut -/
def YieldsC (P : Program) (ops : Array Oper) (C : World → Prop) (o : Oper) (v : Value) (a : Act) : Prop :=
  (Region.wanted o (yielded ops a.tmps) = true ∧ ∀ w', C w' →
    (execOp a.eval o).run P w' = .ok (.value v) w' ∨ ∃ f args, (execOp a.eval o).run P w' = .ok (.enter f args) w' ∧ Calls P f args w' (fun e w'' => e = .returned v ∧ Grew w' w'')) ∨
  (Region.wanted o (yielded ops a.tmps) = false ∧ v = undef)
theorem YieldsC.same {o : Oper} {v : Value} {a a' : Act} (h : YieldsC P ops C o v a) (he : execOp a'.eval o = execOp a.eval o)
    (hw : Region.wanted o (yielded ops a'.tmps) = Region.wanted o (yielded ops a.tmps)) : YieldsC P ops C o v a' := by
  unfold YieldsC
  rw [hw, he]
  exact h

theorem YieldsC.step {i : Nat} {o : Oper} {v : Value} {a : Act} {w : World} (hi : ops[i]? = some o) (hy : YieldsC P ops C o v a) (hw : C w)
    {K : Act → World → Prop} (h : ∀ w'', Grew w w'' → K (a.put o.dst v) w'') : wpOp P ops Q i K a w := by
  unfold wpOp
  simp only [hi]
  rcases hy with ⟨h1, h2⟩ | ⟨h1, rfl⟩
  · simp only [h1, if_true]
    refine .inl ?_
    unfold Oper.wp
    rcases h2 w hw with he | ⟨f, args, he, hc⟩
    · rw [he]; exact h w (Grew.refl _)
    · rw [he]
      simp only [Oper.upon]
      refine Calls.mono hc ?_
      rintro e w'' ⟨rfl, hg⟩
      exact h w'' hg
  · simp only [h1]
    exact h w (Grew.refl _)

/-- a panic is let by from the tail alone -/
def qAt (T : Nat → Bool) (Q : Exit → Act → World → Prop) (i : Nat) : Exit → Act → World → Prop := if T i = true then Q else noP Q
theorem qAt_imp {T : Nat → Bool} {i : Nat} : ∀ e a w, qAt T Q i e a w → Q e a w := fun e a w h => by
  unfold qAt at h
  split at h
  · exact h
  · exact noP_imp e a w h
/-- whatever order is picked from here on; each step but those of T keeps to C, and what follows it holds in all worlds behind by new blocks -/
def wpAnyC (P : Program) (md : Region.Mode) (ops : Array Oper) (C : World → Prop) (T : Nat → Bool) (Q : Exit → Act → World → Prop) : Nat → Array Bool → Act → World → Prop
  | 0, listed, a, w => Region.ready md ops listed = [] ∧ Q .normal a w
  | fuel + 1, listed, a, w =>
    (Region.ready md ops listed = [] → Q .normal a w) ∧
    ∀ i ∈ Region.ready md ops listed, wpOp P ops (qAt T Q i) i (fun a' w'' => (T i = true ∧ wpAnyC P md ops C T Q fuel (listed.setIfInBounds i true) a' w'') ∨
      (C w'' ∧ ∀ w3, Grew w'' w3 → wpAnyC P md ops C T Q fuel (listed.setIfInBounds i true) a' w3)) a w

theorem wpAny_of_cls {T : Nat → Bool} : ∀ (fuel : Nat) (listed : Array Bool) (a : Act) (w : World), wpAnyC P md ops C T Q fuel listed a w → wpAny P md ops Q fuel listed a w
  | 0, _, _, w, h => h
  | fuel + 1, _, _, w, h => ⟨h.1, fun i hi => wpOp_impQ qAt_imp (wpOp_mono (fun a' w' h' => wpAny_of_cls fuel _ a' w' (by
      rcases h' with h' | h'
      · exact h'.2
      · exact h'.2 w' (Grew.refl _))) (h.2 i hi))⟩

theorem wpAnyC_first {i : Nat} {oi : Oper} {v : Value} {T : Nat → Bool} (bs : List Nat) (hC : ∀ {w w'}, C w → Grew w w' → C w') (hi : ops[i]? = some oi) (hsel : ∀ (j : Nat) (o : Oper) cs b, ops[j]? = some o → o.op ≠ .select cs b)
    (hbs : ∀ j ∈ bs, ∀ oj, ops[j]? = some oj → ∃ e ∈ oj.after, Region.binds md e = true ∧ (e.on = i ∨ e.on ∈ bs)) :
    ∀ (fuel : Nat) (listed : Array Bool) (a : Act) (w : World), C w →
      (∀ k ∈ bs, listed.getD k false = false) →
      (∀ j oj, ops[j]? = some oj → j ≠ i → listed.getD j true = false → (∀ e ∈ oj.after, Region.binds md e = true → e.on ≠ i) → oi.apart ops oj = true) →
      (∀ j, j < ops.size → j ≠ i → listed.getD j true = false → j ∉ bs → T j = false) →
      i ∈ Region.ready md ops listed → YieldsC P ops C oi v a →
      (∀ w', Grew w w' → wpAnyC P md ops C T Q fuel (listed.setIfInBounds i true) (a.put oi.dst v) w') → ∀ w', Grew w w' → wpAnyC P md ops C T Q (fuel + 1) listed a w' := by
  intro fuel
  induction fuel with
  | zero =>
    intro listed a w hc _ _ _ hr hy H w' hw
    refine ⟨fun h => (by rw [h] at hr; cases hr), fun j hj => ?_⟩
    by_cases hji : j = i
    · subst hji; exact hy.step hi (hC hc hw) (fun w'' hg => .inr ⟨hC hc (hw.trans hg), fun w3 h3 => H w3 ((hw.trans hg).trans h3)⟩)
    · have := ready_mono hj hji
      rw [(H w' hw).1] at this
      cases this
  | succ fuel ih =>
    intro listed a w hc hun hfree hstore hr hy H w' hw
    refine ⟨fun h => (by rw [h] at hr; cases hr), fun j hj => ?_⟩
    by_cases hji : j = i
    · subst hji; exact hy.step hi (hC hc hw) (fun w'' hg => .inr ⟨hC hc (hw.trans hg), fun w3 h3 => H w3 ((hw.trans hg).trans h3)⟩)
    · have h1 := (H w' hw).2 j (ready_mono hj hji)
      obtain ⟨hjun, oj, hoj, hall⟩ := mem_ready.1 hj
      have hnot : ∀ e ∈ oj.after, Region.binds md e = true → e.on ≠ i := fun e he hb heq => by
        have h1 := hall e he hb
        have h0 := (mem_ready.1 hr).1
        rw [heq] at h1
        rcases Nat.lt_or_ge i listed.size with h' | h'
        · simp [h'] at h0 h1; rw [h0] at h1; cases h1
        · simp [Array.getElem?_eq_none h'] at h1
      have hjb : j ∉ bs := fun hjb => by
        obtain ⟨e, he, hb, h | h⟩ := hbs j hjb oj hoj
        · exact hnot e he hb h
        · have h1 := hall e he hb
          rw [hun _ h] at h1; cases h1
      have hjs : j < ops.size := by
        rcases Nat.lt_or_ge j ops.size with h | h
        · exact h
        · rw [Array.getElem?_eq_none h] at hoj; cases hoj
      have hap := hfree j oj hoj hji hjun hnot
      have hns := hstore j hjs hji hjun hjb
      obtain ⟨a1, a2, a3⟩ := Oper.apart_spec hap
      have hq : qAt T Q j = noP Q := by unfold qAt; rw [hns]; rfl
      rw [hq] at h1 ⊢
      have h2 := wpOp_past (T := fun b => Region.wanted oi (yielded ops b.tmps) = Region.wanted oi (yielded ops a.tmps) ∧ execOp b.eval oi = execOp a.eval oi) hoj hap (fun cs b => hsel j oj cs b hoj) noP_put
        (fun b u hb => ⟨by rw [wanted_put oi b oj.dst u a3]; exact hb.1, by rw [execOp_put oi (fun cs b => hsel i oi cs b hi) b oj.dst u a3]; exact hb.2⟩)
        (fun b d hb => hb) ⟨rfl, rfl⟩ h1
      have hback : ∀ k, k ≠ i → (listed.setIfInBounds j true).getD k true = false → listed.getD k true = false := fun k hki hun => by
        by_cases hjk : j = k
        · subst hjk; exact hjun
        · rw [getD_set_ne true hjk] at hun; exact hun
      refine wpOp_mono (fun a' w'' h3 => ?_) h2
      obtain ⟨h3, h4 | ⟨hc', h4⟩⟩ := h3
      · rw [hns] at h4; cases h4.1
      · refine .inr ⟨hc', ih (listed.setIfInBounds j true) a' w'' hc' (fun k hk => ?_) (fun k ok hk hki hun hno => hfree k ok hk hki (hback k hki hun) hno) (fun k hk hki hun hno => hstore k hk hki (hback k hki hun) hno)
          (ready_mono hr (Ne.symm hji)) (hy.same h3.2 h3.1) (fun w3 hw3 => ?_)⟩
        · rw [getD_set_ne false (fun h : j = k => hjb (by rw [h]; exact hk))]; exact hun k hk
        · rw [Array.setIfInBounds_comm _ _ hji]
          exact h4 w3 hw3

/-- what waits for i in this way or another has not been done; what is of T waits for i -/
def behindB (md : Region.Mode) (ops : Array Oper) (T : Nat → Bool) (listed : Array Bool) (i : Nat) (bs : List Nat) : Bool :=
  (bs.all fun k => !listed.getD k false && ((ops[k]?).map (fun o => o.after.any fun e => Region.binds md e && (e.on == i || bs.contains e.on))).getD true) &&
  (List.range ops.size).all fun j => j == i || listed.getD j true || bs.contains j || !T j
/-- may operation i be taken first? -/
def takeB (md : Region.Mode) (ops : Array Oper) (T : Nat → Bool) (listed : Array Bool) (i : Nat) : Bool :=
  Region.noSelect ops && Region.free md ops listed i && (Region.ready md ops listed).contains i && behindB md ops T listed i (waits md ops listed i ops.size [])

/-- it holds here and behind, by new blocks -/
def AllC (P : Program) (md : Region.Mode) (ops : Array Oper) (C : World → Prop) (T : Nat → Bool) (Q : Exit → Act → World → Prop) (fuel : Nat) (listed : Array Bool) (a : Act) (w : World) : Prop :=
  ∀ w', Grew w w' → wpAnyC P md ops C T Q fuel listed a w'
theorem AllC.up {T : Nat → Bool} {fuel : Nat} {listed : Array Bool} {a : Act} {w w1 : World} (h : AllC P md ops C T Q fuel listed a w) (hg : Grew w w1) : AllC P md ops C T Q fuel listed a w1 := fun w' hw => h w' (hg.trans hw)

theorem AllC.take {l : List Oper} {i : Nat} {oi : Oper} {v : Value} {T : Nat → Bool} {fuel : Nat} {listed : Array Bool} {a : Act} {w : World} (hC : ∀ {w w'}, C w → Grew w w' → C w') (hc : C w) (hi : l[i]? = some oi)
    (hb : takeB md l.toArray T listed i = true) (hy : YieldsC P l.toArray C oi v a)
    (h : AllC P md l.toArray C T Q fuel (listed.setIfInBounds i true) (a.put oi.dst v) w) : AllC P md l.toArray C T Q (fuel + 1) listed a w := by
  unfold takeB at hb
  rw [Bool.and_eq_true, Bool.and_eq_true, Bool.and_eq_true] at hb
  obtain ⟨⟨⟨hs, hf⟩, hr⟩, hg⟩ := hb
  have hi' : l.toArray[i]? = some oi := by simpa using hi
  generalize waits md l.toArray listed i l.toArray.size [] = bs at hg
  unfold behindB at hg
  rw [Bool.and_eq_true, List.all_eq_true, List.all_eq_true] at hg
  obtain ⟨g1, g2⟩ := hg
  refine wpAnyC_first bs hC hi' (Region.noSelect_spec hs) (fun j hj oj hoj => ?_) fuel listed a w hc (fun k hk => ?_) (Region.free_spec hi' hf) (fun j hjs hji hun hno => ?_) (by simpa using hr) hy h
  · have := g1 j hj
    rw [hoj] at this
    simp only [Option.map_some, Option.getD_some, Bool.and_eq_true, Array.any_eq_true, Bool.or_eq_true, beq_iff_eq, List.contains_iff_mem] at this
    obtain ⟨_, k, hk, hb, he⟩ := this
    exact ⟨_, Array.getElem_mem hk, hb, he⟩
  · have := g1 k hk
    simp only [Bool.and_eq_true, Bool.not_eq_true'] at this
    exact this.1
  · have := g2 j (List.mem_range.2 hjs)
    rw [hun] at this
    simp only [Bool.or_eq_true, beq_iff_eq, Bool.false_eq_true, or_false, List.contains_iff_mem, Bool.not_eq_true'] at this
    rcases this with (h | h) | h
    · exact absurd h hji
    · exact absurd h hno
    · exact h

/-! the head's operations, one after another in the order of the text: the checks on the order are asked at once -/
/-- the operations from k on may be taken one after another, each first -/
def takesB (md : Region.Mode) (ops : Array Oper) (T : Nat → Bool) : Nat → Nat → Array Bool → Bool
  | 0, _, _ => true
  | m + 1, k, listed => takeB md ops T listed k && takesB md ops T m (k + 1) (listed.setIfInBounds k true)
def listAll : Nat → Nat → Array Bool → Array Bool
  | 0, _, listed => listed
  | m + 1, k, listed => listAll m (k + 1) (listed.setIfInBounds k true)
/-- each of the operations yields a value in every world of C -/
def HeadC (P : Program) (ops : Array Oper) (C : World → Prop) (R : Act → Prop) : List Oper → Act → Prop
  | [], a => R a
  | o :: rest, a => ∃ v, YieldsC P ops C o v a ∧ HeadC P ops C R rest (a.put o.dst v)
theorem HeadC.nil {R : Act → Prop} {a : Act} (h : R a) : HeadC P ops C R [] a := h
theorem HeadC.val {R : Act → Prop} {a : Act} {o : Oper} {rest : List Oper} (hw : Region.wanted o (yielded ops a.tmps) = true)
    (h : ∃ v, (∀ w', C w' → (execOp a.eval o).run P w' = .ok (.value v) w') ∧ HeadC P ops C R rest (a.put o.dst v)) : HeadC P ops C R (o :: rest) a := by
  obtain ⟨v, hy, h⟩ := h
  exact ⟨v, .inl ⟨hw, fun w' hg => .inl (hy w' hg)⟩, h⟩
theorem HeadC.call {R : Act → Prop} {a : Act} {o : Oper} {rest : List Oper} (hw : Region.wanted o (yielded ops a.tmps) = true)
    (h : ∃ (f : FuncId) (args : Array Value), (∀ w', C w' → (execOp a.eval o).run P w' = .ok (.enter f args) w') ∧
      ∃ v, (∀ w', C w' → Calls P f args w' (fun e w'' => e = .returned v ∧ Grew w' w'')) ∧ HeadC P ops C R rest (a.put o.dst v)) : HeadC P ops C R (o :: rest) a := by
  obtain ⟨f, args, he, v, hy, h⟩ := h
  exact ⟨v, .inl ⟨hw, fun w' hg => .inr ⟨f, args, he w' hg, hy w' hg⟩⟩, h⟩
theorem HeadC.shut {R : Act → Prop} {a : Act} {o : Oper} {rest : List Oper} (hw : Region.wanted o (yielded ops a.tmps) = false)
    (h : HeadC P ops C R rest (a.put o.dst undef)) : HeadC P ops C R (o :: rest) a := ⟨undef, .inr ⟨hw, rfl⟩, h⟩

theorem AllC.heads {l : List Oper} {T : Nat → Bool} {w : World} (hC : ∀ {w w'}, C w → Grew w w' → C w') (hc : C w) {fuel : Nat} :
    ∀ (os : List Oper) (k : Nat) (listed : Array Bool) (a : Act), (∀ j, j < os.length → os[j]? = l[k + j]?) → takesB md l.toArray T os.length k listed = true →
      HeadC P l.toArray C (fun a' => AllC P md l.toArray C T Q fuel (listAll os.length k listed) a' w) os a → AllC P md l.toArray C T Q (fuel + os.length) listed a w
  | [], k, listed, a, _, _, h => h
  | o :: os, k, listed, a, ho, hb, h => by
    simp only [List.length_cons, takesB, Bool.and_eq_true] at hb
    obtain ⟨v, hy, hrest⟩ := h
    have hi : l[k]? = some o := by simpa using (ho 0 (by simp)).symm
    exact AllC.take hC hc hi hb.1 hy (AllC.heads hC hc os (k + 1) _ _ (fun j hj => by
      have := ho (j + 1) (by simp only [List.length_cons]; omega)
      simpa [Nat.add_assoc, Nat.add_comm 1 j] using this) hb.2 hrest)
/-- the operations from k to k + m - 1 are taken first, in this order -/
theorem AllC.head {l : List Oper} {T : Nat → Bool} {w : World} (k m : Nat) {fuel : Nat} {listed : Array Bool} {a : Act} (hC : ∀ {w w'}, C w → Grew w w' → C w') (hc : C w) (hm : ((l.drop k).take m).length = m)
    (hb : takesB md l.toArray T m k listed = true) (h : HeadC P l.toArray C (fun a' => AllC P md l.toArray C T Q fuel (listAll m k listed) a' w) ((l.drop k).take m) a) :
    AllC P md l.toArray C T Q (fuel + m) listed a w := by
  have h1 := AllC.heads (l := l) (md := md) (Q := Q) (T := T) (fuel := fuel) hC hc ((l.drop k).take m) k listed a (fun j hj => by
    have hj' : j < m := by rw [hm] at hj; exact hj
    simp [hj']) (by rw [hm]; exact hb) (by rw [hm]; exact h)
  rw [hm] at h1
  exact h1

theorem AllC.done {T : Nat → Bool} {fuel : Nat} {listed : Array Bool} {a : Act} {w : World} (hr : Region.ready md ops listed = []) (h : ∀ w', Grew w w' → Q .normal a w') : AllC P md ops C T Q fuel listed a w := by
  intro w' hw
  cases fuel with
  | zero => exact ⟨hr, h w' hw⟩
  | succ fuel => exact ⟨fun _ => h w' hw, by rw [hr]; simp⟩

/-- one operation, not of T, comes up next: by its proof C is kept, and the rest holds in all worlds behind -/
theorem AllC.one {l : List Oper} {T : Nat → Bool} {fuel : Nat} {listed : Array Bool} {a : Act} {w : World} {o : Oper} (i : Nat) (hr : Region.ready md l.toArray listed = [i]) (ho : l[i]? = some o)
    (h : ∀ w', Grew w w' → ∀ K' : Act → World → Prop, Shut (∀ a w1, C w1 → AllC P md l.toArray C T Q fuel (listed.setIfInBounds i true) a w1 → K' a w1) → if Region.wanted o (yielded l.toArray a.tmps) = true then Oper.wp P o a w' K' (qAt T Q i) else K' (a.put o.dst undef) w') :
    AllC P md l.toArray C T Q (fuel + 1) listed a w := by
  intro w' hw
  refine ⟨fun h0 => (by rw [hr] at h0; cases h0), fun j hj => ?_⟩
  rw [hr] at hj
  have hji : j = i := by simpa using hj
  subst hji
  exact wpOp_step (by simpa using ho) (fun K' hK => h w' hw K' (fun a w h1 h2 => hK a w (.inr ⟨h1, h2⟩)))
/-- several operations come up next -/
theorem AllC.both {l : List Oper} {T : Nat → Bool} {fuel : Nat} {listed : Array Bool} {a : Act} {w : World} (is : List Nat) (hr : Region.ready md l.toArray listed = is) (hne : is ≠ [])
    (h : ∀ w', Grew w w' → ∀ i ∈ is, ∃ o, l[i]? = some o ∧ ∀ K' : Act → World → Prop, Shut (∀ a w1, C w1 → AllC P md l.toArray C T Q fuel (listed.setIfInBounds i true) a w1 → K' a w1) → if Region.wanted o (yielded l.toArray a.tmps) = true then Oper.wp P o a w' K' (qAt T Q i) else K' (a.put o.dst undef) w') :
    AllC P md l.toArray C T Q (fuel + 1) listed a w := by
  intro w' hw
  refine ⟨fun h0 => absurd (hr ▸ h0) hne, fun j hj => ?_⟩
  rw [hr] at hj
  obtain ⟨o, ho, h⟩ := h w' hw j hj
  exact wpOp_step (by simpa using ho) (fun K' hK => h K' (fun a w h1 h2 => hK a w (.inr ⟨h1, h2⟩)))

/-- the rest comes in one forced order, all of it of T -/
def seqTB (md : Region.Mode) (ops : Array Oper) (T : Nat → Bool) : Nat → Nat → Array Bool → Bool
  | 0, _, listed => (Region.ready md ops listed).isEmpty
  | g + 1, k, listed => T k && decide (Region.ready md ops listed = [k]) && seqTB md ops T g (k + 1) (listed.setIfInBounds k true)
theorem wpAnyC_seq {T : Nat → Bool} : ∀ (l : List Oper) (k : Nat) (listed : Array Bool) (a : Act) (w : World), (∀ j, l[j]? = ops[k + j]?) →
    seqTB md ops T l.length k listed = true → wpList P ops Q l a w → wpAnyC P md ops C T Q l.length listed a w
  | [], _, _, _, _, _, hB, h => ⟨by simpa [seqTB] using hB, h⟩
  | o :: l, k, listed, a, w, hl, hB, h => by
    have h0 : ops[k]? = some o := by simpa using (hl 0).symm
    simp only [List.length_cons, seqTB, Bool.and_eq_true, decide_eq_true_eq] at hB
    refine ⟨fun h1 => (by rw [hB.1.2] at h1; cases h1), fun i hi => ?_⟩
    rw [hB.1.2] at hi
    have hik : i = k := by simpa using hi
    subst hik
    have hw : wpOp P ops Q i (wpList P ops Q l) a w := by unfold wpOp; simp only [h0]; exact h
    have hq : qAt T Q i = Q := by unfold qAt; rw [hB.1.1]; rfl
    rw [hq]
    exact wpOp_mono (fun a' w' h' => .inl ⟨hB.1.1, wpAnyC_seq l (i + 1) _ a' w' (fun j => by have := hl (j + 1); simpa [Nat.add_assoc, Nat.add_comm 1 j] using this) hB.2 h'⟩) hw
theorem AllC.tail {l : List Oper} {T : Nat → Bool} {fuel : Nat} {listed : Array Bool} {a : Act} {w : World} (k : Nat) (ht : (l.drop k).length = fuel) (hB : seqTB md l.toArray T fuel k listed = true)
    (h : ∀ w', Grew w w' → wpList P l.toArray Q (l.drop k) a w') : AllC P md l.toArray C T Q fuel listed a w := by
  intro w' hw
  subst ht
  exact wpAnyC_seq (l.drop k) k listed a w' (fun j => by simp) hB (h w' hw)

/-- the region; C: the class of worlds; from operation n on the operations are the tail -/
theorem wp_region_cls (C : World → Prop) (n : Nat) {id : Nat} {a : Act} {w : World} (hm : P.follows .mixedOrders = true)
    (h : AllC P .any ops C (fun i => decide (n ≤ i)) Q ops.size (Array.replicate ops.size false) a w.drew) : (Code.region id ops true).wp P Q a w :=
  wp_region_any hm (wpAny_of_cls _ _ _ _ (h _ (Grew.refl _)))
end

/-- .. with the class 'behind by new blocks' -/
theorem wp_region_g {P : Program} {ops : Array Oper} {Q : Exit → Act → World → Prop} (n : Nat) {id : Nat} {a : Act} {w : World} (hm : P.follows .mixedOrders = true)
    (h : AllC P .any ops (Grew w) (fun i => decide (n ≤ i)) Q ops.size (Array.replicate ops.size false) a w.drew) : (Code.region id ops true).wp P Q a w :=
  wp_region_cls (Grew w) n hm h

theorem cls_grew {S : Nat → Prop} {w0 w w' : World} (h : Ch S w0 w) (k : Grew w w') : Ch S w0 w' := h.next k

section
variable {P : Program} {f : FuncId} {args : Array Value} {w : World} {v : Value}
theorem grew_same (h : Calls P f args w fun e w' => e = .returned v ∧ w = w') : Calls P f args w fun e w' => e = .returned v ∧ Grew w w' := h.mono fun _ _ ⟨he, hw⟩ => ⟨he, grew_eq hw⟩
theorem grew_draws (h : Calls P f args w fun e w' => e = .returned v ∧ Drawn w w') : Calls P f args w fun e w' => e = .returned v ∧ Grew w w' := h.mono fun _ _ ⟨he, hw⟩ => ⟨he, grew_drawn hw⟩
end
theorem Row.up {w w' : World} {B : Nat} {A : Option Addr} {xs : List Value} (h : Row w B A xs) (hg : Grew w w') (hB : B ≤ w.heap.size) : Row w' B A xs := h.below hg hB
theorem cell_up {w w' : World} (hg : Grew w w') {p : Addr} {u : Value} (hc : w.cell? p = some u) : w'.cell? p = some u := (hg.cell (World.block_lt_of_cell? w p hc)).trans hc

end Go.Proofs.Ytnjhipnfhapngaa
