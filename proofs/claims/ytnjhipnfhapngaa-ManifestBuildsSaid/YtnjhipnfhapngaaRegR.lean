/-
  A region that draws its order: a CALL may be taken first, whoever else may come before it, if it returns the same value in every world that
  stands behind the one at hand by new blocks alone, and lays nothing but new blocks itself. So a region of calls, loads and allocs is walked once
  for each order of its ALLOCS, not for each order of calls and allocs. (The laws of Derived/OrdersHeld.lean have one condition on worlds for the
  whole region; here the condition is 'behind the world at hand', and grows with the walk.)
-/
import Derived.Test.YtnjhipnfhapngaaBox
import Derived.OrdersHeld
import Derived.Deep.RegionHeld
namespace Go.Proofs.Ytnjhipnfhapngaa
set_option linter.unusedVariables false
set_option linter.unusedSimpArgs false
set_option linter.unnecessarySimpa false
open Go Go.RowKit

/-- w' stands behind w by new blocks and draws alone -/
def Grew (w w' : World) : Prop := Below w.heap.size w w'
theorem Grew.refl (w : World) : Grew w w := Below.refl _ _
theorem Grew.trans {a b c : World} (h : Grew a b) (k : Grew b c) : Grew a c := below_then h k

theorem grew_alloc (w : World) (o : Obj) : Grew w (w.alloc o) := (Below.refl _ _).alloc (Nat.le_refl _) o
theorem grew_drew (w : World) : Grew w w.drew := (Below.refl _ _).drew
theorem grew_eq {w w' : World} (h : w = w') : Grew w w' := h ▸ Grew.refl w
theorem grew_drawn {w w' : World} (h : Drawn w w') : Grew w w' := h.below _
theorem Bx.up {W w1 : World} {g : Nat} {s n : Int} (h : Bx W g s n) (hg : Grew W w1) : Bx w1 g s n := h.of hg
theorem Fr.up {w W w1 : World} (h : Fr w W) (hg : Grew W w1) : Fr w w1 := h.of hg
theorem Bx.stored {W : World} {g : Nat} {s n : Int} (h : Bx W g s n) (s' n' : Int) : Bx ((W.setCell ⟨g, 0, none⟩ (.int .u64 s')).setCell ⟨g, 1, none⟩ (.int .i64 n')) g s' n' := by
  obtain ⟨c0, c1, f0, f1, lt⟩ := h
  constructor <;> go_simp
theorem Bx.far {W : World} {g g' : Nat} {s n : Int} (h : Bx W g s n) (hne : g' ≠ g) (u v : Value) : Bx ((W.setCell ⟨g', 0, none⟩ u).setCell ⟨g', 1, none⟩ v) g s n := by
  have hb : Below (g + 1) W W := Below.refl _ _
  obtain ⟨c0, c1, f0, f1, lt⟩ := h
  refine ⟨?_, ?_, ?_, ?_, ?_⟩
  · rw [World.cell?_setCell_far _ _ _ _ hne, World.cell?_setCell_far _ _ _ _ hne]; exact c0
  · rw [World.cell?_setCell_far _ _ _ _ hne, World.cell?_setCell_far _ _ _ _ hne]; exact c1
  · go_simp
  · go_simp
  · simpa using lt
theorem Fr.stored {w W : World} {g : Nat} (h : Fr w W) (hg : w.heap.size ≤ g) (u v : Value) : Fr w ((W.setCell ⟨g, 0, none⟩ u).setCell ⟨g, 1, none⟩ v) := ⟨(h.b.setCell hg _).setCell hg _⟩
section
variable {P : Program} {ops : Array Oper} {Q : Exit → Act → World → Prop} {md : Region.Mode}

/-- is operation number i a store? -/
def isStore (ops : Array Oper) (i : Nat) : Bool := match ops[i]? with
  | some o => match o.op with | .store .. => true | _ => false
  | none => false

/-- in every world behind w, operation o yields v: at once, or by a call that lays new blocks alone -/
def YieldsG (P : Program) (ops : Array Oper) (o : Oper) (v : Value) (a : Act) (w : World) : Prop :=
  Region.wanted o (yielded ops a.tmps) = true ∧ ∀ w', Grew w w' →
    (execOp a.eval o).run P w' = .ok (.value v) w' ∨ ∃ f args, (execOp a.eval o).run P w' = .ok (.enter f args) w' ∧ Calls P f args w' (fun e w'' => e = .returned v ∧ Grew w' w'')

theorem YieldsG.up {o : Oper} {v : Value} {a : Act} {w w1 : World} (h : YieldsG P ops o v a w) (hg : Grew w w1) : YieldsG P ops o v a w1 :=
  ⟨h.1, fun w' hw => h.2 w' (hg.trans hw)⟩
theorem YieldsG.same {o : Oper} {v : Value} {a a' : Act} {w : World} (h : YieldsG P ops o v a w) (he : execOp a'.eval o = execOp a.eval o)
    (hw : Region.wanted o (yielded ops a'.tmps) = true) : YieldsG P ops o v a' w := ⟨hw, by rw [he]; exact h.2⟩

theorem YieldsG.step {i : Nat} {o : Oper} {v : Value} {a : Act} {w w' : World} (hi : ops[i]? = some o) (hy : YieldsG P ops o v a w) (hw : Grew w w')
    {K : Act → World → Prop} (h : ∀ w'', Grew w' w'' → K (a.put o.dst v) w'') : wpOp P ops Q i K a w' := by
  unfold wpOp
  simp only [hi, hy.1, if_true]
  refine .inl ?_
  unfold Oper.wp
  rcases hy.2 w' hw with he | ⟨f, args, he, hc⟩
  · rw [he]; exact h w' (Grew.refl _)
  · rw [he]
    simp only [Oper.upon]
    refine Calls.mono hc ?_
    rintro e w'' ⟨rfl, hg⟩
    exact h w'' hg

/-- what operation j does is the same whether i's value, which it does not look at, is there or not; and T, which j's value does not touch, stays -/
theorem wpOp_past {j : Nat} {oi oj : Oper} {v : Value} (hj : ops[j]? = some oj) (hap : oi.apart ops oj = true)
    (hsj : ∀ cs b, oj.op ≠ .select cs b) (hQ : ∀ c a w, Q (.panic c) (a.put oi.dst v) w → Q (.panic c) a w)
    {T : Act → Prop} (kT : ∀ a u, T a → T (a.put oj.dst u)) (kD : ∀ (a : Act) d, T a → T { a with defers := d :: a.defers })
    {K : Act → World → Prop} {a : Act} {w : World} (ht : T a) (h : wpOp P ops Q j K (a.put oi.dst v) w) :
    wpOp P ops Q j (fun a' w' => T a' ∧ K (a'.put oi.dst v) w') a w := by
  obtain ⟨h1, h2, h3⟩ := Oper.apart_spec hap
  unfold wpOp at *
  simp only [hj] at *
  rw [wanted_put oj a oi.dst v h1] at h
  by_cases hw : Region.wanted oj (yielded ops a.tmps) = true
  · simp only [hw, if_true] at h ⊢
    rcases h with h | ⟨ha, hl⟩
    · left
      unfold Oper.wp at *
      rw [execOp_put oj hsj a oi.dst v h1] at h
      revert h
      cases (execOp a.eval oj).run P w with
      | ok n w' =>
        cases n with
        | value u => exact fun h => ⟨kT a u ht, by rw [← Act.put_comm a v u h2]; exact h⟩
        | skip => exact fun h => ⟨kT a _ ht, by rw [← Act.put_comm a v undef h2]; exact h⟩
        | defer d =>
          intro h
          refine ⟨kT _ _ (kD a d ht), ?_⟩
          rw [← Act.put_comm _ v undef h2, ← Act.put_defers]
          exact h
        | enter f args =>
          intro h
          refine Calls.mono h fun e w'' he => ?_
          cases e with
          | returned u => exact ⟨kT a u ht, by rw [← Act.put_comm a v u h2]; exact he⟩
          | panicked c => exact hQ _ _ _ he
          | outgrown => exact he
        | row r args => exact fun h => Rows.mono h fun u w'' he => ⟨kT a u ht, by rw [← Act.put_comm a v u h2]; exact he⟩
        | _ => exact fun h => h
      | halt x w' =>
        cases x with
        | panic u => exact fun h => hQ _ _ _ h
        | _ => exact fun h => h
    · right
      refine ⟨?_, hl⟩
      unfold Oper.asks at *
      rw [execOp_put oj hsj a oi.dst v h1] at ha
      exact ha
  · simp only [hw] at h ⊢
    exact ⟨kT a _ ht, by rw [← Act.put_comm a v undef h2]; exact h⟩

/-- whatever order is picked from here on, in whatever world behind w -/
def wpAnyG (P : Program) (md : Region.Mode) (ops : Array Oper) (Q : Exit → Act → World → Prop) : Nat → Array Bool → Act → World → Prop
  | 0, listed, a, w => Region.ready md ops listed = [] ∧ ∀ w', Grew w w' → Q .normal a w'
  | fuel + 1, listed, a, w => ∀ w', Grew w w' →
    (Region.ready md ops listed = [] → Q .normal a w') ∧
    ∀ i ∈ Region.ready md ops listed, wpOp P ops Q i (fun a' w'' => (isStore ops i = true ∨ Grew w' w'') ∧ wpAnyG P md ops Q fuel (listed.setIfInBounds i true) a' w'') a w'

theorem wpAny_of_grew : ∀ (fuel : Nat) (listed : Array Bool) (a : Act) (w : World), wpAnyG P md ops Q fuel listed a w → wpAny P md ops Q fuel listed a w
  | 0, _, _, w, h => ⟨h.1, h.2 w (Grew.refl _)⟩
  | fuel + 1, _, _, w, h => ⟨(h w (Grew.refl _)).1, fun i hi => wpOp_mono (fun a' w' h' => wpAny_of_grew fuel _ a' w' h'.2) ((h w (Grew.refl _)).2 i hi)⟩

theorem wpAnyG_up {w w1 : World} (hg : Grew w w1) : ∀ {fuel : Nat} {listed : Array Bool} {a : Act}, wpAnyG P md ops Q fuel listed a w → wpAnyG P md ops Q fuel listed a w1
  | 0, _, _, h => ⟨h.1, fun w' hw => h.2 w' (hg.trans hw)⟩
  | _ + 1, _, _, h => fun w' hw => h w' (hg.trans hw)

/-- operation i may be taken first; bs: operations that wait for it -/
theorem wpAnyG_first {i : Nat} {oi : Oper} {v : Value} (bs : List Nat) (hi : ops[i]? = some oi) (hsel : ∀ (j : Nat) (o : Oper) cs b, ops[j]? = some o → o.op ≠ .select cs b)
    (hQ : ∀ c a w, Q (.panic c) (a.put oi.dst v) w → Q (.panic c) a w)
    (hbs : ∀ j ∈ bs, ∀ oj, ops[j]? = some oj → ∃ e ∈ oj.after, Region.binds md e = true ∧ (e.on = i ∨ e.on ∈ bs)) :
    ∀ (fuel : Nat) (listed : Array Bool) (a : Act) (w : World),
      (∀ k ∈ bs, listed.getD k false = false) →
      (∀ j oj, ops[j]? = some oj → j ≠ i → listed.getD j true = false → (∀ e ∈ oj.after, Region.binds md e = true → e.on ≠ i) → oi.apart ops oj = true) →
      (∀ j, j < ops.size → j ≠ i → listed.getD j true = false → j ∉ bs → isStore ops j = false) →
      i ∈ Region.ready md ops listed → YieldsG P ops oi v a w →
      wpAnyG P md ops Q fuel (listed.setIfInBounds i true) (a.put oi.dst v) w → wpAnyG P md ops Q (fuel + 1) listed a w := by
  intro fuel
  induction fuel with
  | zero =>
    intro listed a w _ _ _ hr hy H w' hw
    refine ⟨fun h => (by rw [h] at hr; cases hr), fun j hj => ?_⟩
    by_cases hji : j = i
    · subst hji; exact hy.step hi hw (fun w'' hg => ⟨.inr hg, wpAnyG_up (hw.trans hg) H⟩)
    · have := ready_mono hj hji
      rw [H.1] at this
      cases this
  | succ fuel ih =>
    intro listed a w hun hfree hstore hr hy H w' hw
    refine ⟨fun h => (by rw [h] at hr; cases hr), fun j hj => ?_⟩
    by_cases hji : j = i
    · subst hji; exact hy.step hi hw (fun w'' hg => ⟨.inr hg, wpAnyG_up (hw.trans hg) H⟩)
    · have h1 := (H w' hw).2 j (ready_mono hj hji)
      obtain ⟨hjun, oj, hoj, hall⟩ := mem_ready.1 hj
      have hnot : ∀ e ∈ oj.after, Region.binds md e = true → e.on ≠ i := fun e he hb heq => by
        have h1 := hall e he hb
        have h0 := (mem_ready.1 hr).1
        rw [heq] at h1
        rcases Nat.lt_or_ge i listed.size with h' | h'
        · simp [h'] at h0 h1; rw [h0] at h1; cases h1
        · simp [Array.getElem?_eq_none h'] at h1
      have hjb : j ∉ bs := fun hjb => by
        obtain ⟨e, he, hb, h | h⟩ := hbs j hjb oj hoj
        · exact hnot e he hb h
        · have h1 := hall e he hb
          rw [hun _ h] at h1; cases h1
      have hjs : j < ops.size := by
        rcases Nat.lt_or_ge j ops.size with h | h
        · exact h
        · rw [Array.getElem?_eq_none h] at hoj; cases hoj
      have hap := hfree j oj hoj hji hjun hnot
      have hns := hstore j hjs hji hjun hjb
      obtain ⟨a1, a2, a3⟩ := Oper.apart_spec hap
      have h2 := wpOp_past (T := fun b => Region.wanted oi (yielded ops b.tmps) = true ∧ execOp b.eval oi = execOp a.eval oi) hoj hap (fun cs b => hsel j oj cs b hoj) hQ
        (fun b u hb => ⟨by rw [wanted_put oi b oj.dst u a3]; exact hb.1, by rw [execOp_put oi (fun cs b => hsel i oi cs b hi) b oj.dst u a3]; exact hb.2⟩)
        (fun b d hb => hb) ⟨hy.1, rfl⟩ h1
      have hback : ∀ k, k ≠ i → (listed.setIfInBounds j true).getD k true = false → listed.getD k true = false := fun k hki hun => by
        by_cases hjk : j = k
        · subst hjk; exact hjun
        · rw [getD_set_ne true hjk] at hun; exact hun
      refine wpOp_mono (fun a' w'' h3 => ?_) h2
      have hg : Grew w' w'' := by
        rcases h3.2.1 with h | h
        · rw [hns] at h; cases h
        · exact h
      refine ⟨.inr hg, ih (listed.setIfInBounds j true) a' w'' (fun k hk => ?_) (fun k ok hk hki hun hno => hfree k ok hk hki (hback k hki hun) hno) (fun k hk hki hun hno => hstore k hk hki (hback k hki hun) hno)
        (ready_mono hr (Ne.symm hji)) ((hy.same h3.1.2 h3.1.1).up (hw.trans hg)) ?_⟩
      · rw [getD_set_ne false (fun h : j = k => hjb (by rw [h]; exact hk))]; exact hun k hk
      · rw [Array.setIfInBounds_comm _ _ hji]
        exact h3.2.2

/-- what waits for i, by one edge or by several -/
def waits (md : Region.Mode) (ops : Array Oper) (listed : Array Bool) (i : Nat) : Nat → List Nat → List Nat
  | 0, bs => bs
  | n + 1, bs => waits md ops listed i n ((List.range ops.size).filter fun j => !listed.getD j true && ((ops[j]?).map (fun o => o.after.any fun e => Region.binds md e && (e.on == i || bs.contains e.on))).getD false)
/-- the side conditions as a Bool -/
def freeG (md : Region.Mode) (ops : Array Oper) (listed : Array Bool) (i : Nat) (bs : List Nat) : Bool :=
  (bs.all fun k => !listed.getD k false && ((ops[k]?).map (fun o => o.after.any fun e => Region.binds md e && (e.on == i || bs.contains e.on))).getD true) &&
  (List.range ops.size).all fun j => j == i || listed.getD j true || bs.contains j || !isStore ops j

theorem wpAnyG_take {i : Nat} {oi : Oper} {v : Value} {fuel : Nat} {listed : Array Bool} {a : Act} {w : World} (hi : ops[i]? = some oi)
    (hs : Region.noSelect ops = true) (hf : Region.free md ops listed i = true) (hg : freeG md ops listed i (waits md ops listed i ops.size []) = true) (hr : (Region.ready md ops listed).contains i = true)
    (hQ : ∀ c a w, Q (.panic c) (a.put oi.dst v) w → Q (.panic c) a w) (hy : YieldsG P ops oi v a w)
    (h : wpAnyG P md ops Q fuel (listed.setIfInBounds i true) (a.put oi.dst v) w) : wpAnyG P md ops Q (fuel + 1) listed a w := by
  generalize waits md ops listed i ops.size [] = bs at hg
  unfold freeG at hg
  rw [Bool.and_eq_true, List.all_eq_true, List.all_eq_true] at hg
  obtain ⟨g1, g2⟩ := hg
  refine wpAnyG_first bs hi (Region.noSelect_spec hs) hQ (fun j hj oj hoj => ?_) fuel listed a w (fun k hk => ?_) (Region.free_spec hi hf) (fun j hjs hji hun hno => ?_) (by simpa using hr) hy h
  · have := g1 j hj
    rw [hoj] at this
    simp only [Option.map_some, Option.getD_some, Bool.and_eq_true, Array.any_eq_true, Bool.or_eq_true, beq_iff_eq, List.contains_iff_mem] at this
    obtain ⟨_, k, hk, hb, he⟩ := this
    exact ⟨_, Array.getElem_mem hk, hb, he⟩
  · have := g1 k hk
    simp only [Bool.and_eq_true, Bool.not_eq_true'] at this
    exact this.1
  · have := g2 j (List.mem_range.2 hjs)
    rw [hun] at this
    simp only [Bool.or_eq_true, beq_iff_eq, Bool.false_eq_true, or_false, List.contains_iff_mem, Bool.not_eq_true'] at this
    rcases this with (h | h) | h
    · exact absurd h hji
    · exact absurd h hno
    · exact h

theorem wpAnyG_done {listed : Array Bool} {a : Act} {w : World} (hr : Region.ready md ops listed = []) (h : ∀ w', Grew w w' → Q .normal a w') :
    ∀ fuel, wpAnyG P md ops Q fuel listed a w
  | 0 => ⟨hr, h⟩
  | _ + 1 => fun w' hw => ⟨fun _ => h w' hw, by rw [hr]; simp⟩

/-- each of the operations rs comes up next -/
def AllReadyG (P : Program) (md : Region.Mode) (ops : Array Oper) (Q : Exit → Act → World → Prop) (fuel : Nat) (listed : Array Bool) (a : Act) (w : World) (rs : List Nat) : Prop :=
  ∀ i ∈ rs, wpOp P ops Q i (fun a' w' => (isStore ops i = true ∨ Grew w w') ∧ wpAnyG P md ops Q fuel (listed.setIfInBounds i true) a' w') a w
theorem AllReadyG.nil {fuel : Nat} {listed : Array Bool} {a : Act} {w : World} : AllReadyG P md ops Q fuel listed a w [] := fun _ h => by cases h
theorem AllReadyG.cons {fuel : Nat} {listed : Array Bool} {a : Act} {w : World} {i : Nat} {o : Oper} {rs : List Nat} (ho : ops[i]? = some o)
    (h : ∀ K' : Act → World → Prop, Shut (∀ a w1, (isStore ops i = true ∨ Grew w w1) → wpAnyG P md ops Q fuel (listed.setIfInBounds i true) a w1 → K' a w1) → if Region.wanted o (yielded ops a.tmps) = true then Oper.wp P o a w K' Q else K' (a.put o.dst undef) w)
    (hs : AllReadyG P md ops Q fuel listed a w rs) : AllReadyG P md ops Q fuel listed a w (i :: rs) := fun j hj => by
  rcases List.mem_cons.1 hj with rfl | hj
  · exact wpOp_step ho (fun K' hK => h K' (fun a w h1 h2 => hK a w ⟨h1, h2⟩))
  · exact hs j hj
theorem wpAnyG_ready {rs : List Nat} {fuel : Nat} {listed : Array Bool} {a : Act} {w : World} (hr : Region.ready md ops listed = rs) (hne : rs ≠ [])
    (h : ∀ w', Grew w w' → AllReadyG P md ops Q fuel listed a w' rs) : wpAnyG P md ops Q (fuel + 1) listed a w :=
  fun w' hw => ⟨fun h0 => absurd (hr ▸ h0) hne, hr ▸ h w' hw⟩

/-! the same for a region that is written out: the operation is read off the list -/
theorem wpAnyG_takeL {l : List Oper} {i : Nat} {oi : Oper} {v : Value} {fuel : Nat} {listed : Array Bool} {a : Act} {w : World} (hi : l[i]? = some oi)
    (hs : Region.noSelect l.toArray = true) (hf : Region.free md l.toArray listed i = true) (hg : freeG md l.toArray listed i (waits md l.toArray listed i l.toArray.size []) = true) (hr : (Region.ready md l.toArray listed).contains i = true)
    (hQ : ∀ c a w, Q (.panic c) (a.put oi.dst v) w → Q (.panic c) a w) (hy : YieldsG P l.toArray oi v a w)
    (h : wpAnyG P md l.toArray Q fuel (listed.setIfInBounds i true) (a.put oi.dst v) w) : wpAnyG P md l.toArray Q (fuel + 1) listed a w :=
  wpAnyG_take (by simpa using hi) hs hf hg hr hQ hy h
theorem AllReadyG.consL {l : List Oper} {fuel : Nat} {listed : Array Bool} {a : Act} {w : World} {i : Nat} {o : Oper} {rs : List Nat} (ho : l[i]? = some o)
    (h : ∀ K' : Act → World → Prop, Shut (∀ a w1, (isStore l.toArray i = true ∨ Grew w w1) → wpAnyG P md l.toArray Q fuel (listed.setIfInBounds i true) a w1 → K' a w1) → if Region.wanted o (yielded l.toArray a.tmps) = true then Oper.wp P o a w K' Q else K' (a.put o.dst undef) w)
    (hs : AllReadyG P md l.toArray Q fuel listed a w rs) : AllReadyG P md l.toArray Q fuel listed a w (i :: rs) :=
  AllReadyG.cons (by simpa using ho) h hs

theorem wp_region_grew {id : Nat} {a : Act} {w : World} (hm : P.follows .mixedOrders = true)
    (h : wpAnyG P .any ops Q ops.size (Array.replicate ops.size false) a w.drew) : (Code.region id ops true).wp P Q a w :=
  wp_region_any hm (wpAny_of_grew _ _ _ _ h)
end

end Go.Proofs.Ytnjhipnfhapngaa
