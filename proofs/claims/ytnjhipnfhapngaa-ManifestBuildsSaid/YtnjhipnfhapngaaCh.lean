/-
  What a call may change: 'Ch S w w'': all blocks of w but those of S are as they were in w', nothing has gone. And a block that is known whole.
-/
import Derived.Test.YtnjhipnfhapngaaOwn
import Derived.Deep.MidRow
namespace Go.Proofs.Ytnjhipnfhapngaa
set_option linter.unusedVariables false
set_option linter.unusedSimpArgs false
set_option linter.unnecessarySimpa false
open Go.RowKit Go.Lib

/-- all blocks of w but those of S are in w' as they were -/
structure Ch (S : Nat → Prop) (w w' : World) : Prop where
  os : w'.os = w.os
  tape : w'.tape = w.tape
  output : w'.output = w.output
  size : w.heap.size ≤ w'.heap.size
  block : ∀ k, k < w.heap.size → ¬ S k → w'.heap[k]? = w.heap[k]?

/-- no block changes -/
abbrev NoB : Nat → Prop := fun _ => False
/-- block g alone may change -/
abbrev At (g : Nat) : Nat → Prop := fun k => k = g
abbrev At2 (g h : Nat) : Nat → Prop := fun k => k = g ∨ k = h

section
variable {S T : Nat → Prop} {w w' w1 w2 : World}
theorem Ch.refl (S : Nat → Prop) (w : World) : Ch S w w := ⟨rfl, rfl, rfl, Nat.le_refl _, fun _ _ _ => rfl⟩
theorem Ch.trans (h : Ch S w w1) (k : Ch S w1 w2) : Ch S w w2 :=
  ⟨k.os.trans h.os, k.tape.trans h.tape, k.output.trans h.output, Nat.le_trans h.size k.size, fun i hi hn => (k.block i (Nat.lt_of_lt_of_le hi h.size) hn).trans (h.block i hi hn)⟩
theorem Ch.mono (h : Ch S w w1) (hs : ∀ k, k < w.heap.size → S k → T k) : Ch T w w1 := ⟨h.os, h.tape, h.output, h.size, fun i hi hn => h.block i hi (fun k => hn (hs i hi k))⟩
theorem Ch.of_below (h : Below w.heap.size w w1) : Ch S w w1 := ⟨h.os, h.tape, h.output, h.size, fun i hi _ => h.block i hi⟩
theorem Ch.of_grown {g : Nat} (h : w.grownBy w1 (some g)) : Ch (At g) w w1 := ⟨h.os, h.tape, h.output, h.size, fun i hi hn => h.block i hi (fun e => hn (by injection e))⟩
theorem Ch.of_own {v : Value} (h : w.grownBy w1 v.ownBlock) : Ch (fun k => v.ownBlock = some k) w w1 := ⟨h.os, h.tape, h.output, h.size, fun i hi hn => h.block i hi (fun e => hn e.symm)⟩
/-- below N all is as it was, if what may change lies from N on -/
theorem Ch.below {N : Nat} (h : Ch S w w1) (hN : N ≤ w.heap.size) (hs : ∀ k, S k → N ≤ k) : Below N w w1 :=
  ⟨h.os, h.tape, h.output, h.size, fun i hi => h.block i (by omega) (fun k => by have := hs i k; omega)⟩
theorem Ch.grew (h : Ch NoB w w1) : Below w.heap.size w w1 := h.below (Nat.le_refl _) (fun _ h => h.elim)
theorem Ch.next (h : Ch S w w1) (k : Below w1.heap.size w1 w2) : Ch S w w2 := h.trans (Ch.of_below k)
/-- .. and what the second step changes was not there at the first's beginning -/
theorem Ch.nextNew (h : Ch S w w1) (k : Ch T w1 w2) (hs : ∀ i, T i → w.heap.size ≤ i ∨ S i) : Ch S w w2 :=
  ⟨k.os.trans h.os, k.tape.trans h.tape, k.output.trans h.output, Nat.le_trans h.size k.size, fun i hi hn => (k.block i (Nat.lt_of_lt_of_le hi h.size) (fun t => by
    rcases hs i t with h0 | h0
    · omega
    · exact hn h0)).trans (h.block i hi hn)⟩
theorem Ch.drew (h : Ch S w w1) : Ch S w w1.drew := ⟨h.os, h.tape, h.output, h.size, h.block⟩
theorem Ch.drewN (h : Ch S w w1) (n : Nat) : Ch S w (w1.drewN n) := ⟨h.os, h.tape, h.output, h.size, h.block⟩
theorem Ch.drawn (h : Ch S w w1) (k : Drawn w1 w2) : Ch S w w2 := by obtain ⟨n, rfl⟩ := k; exact h.drewN n
theorem Ch.alloc (h : Ch S w w1) (o : Obj) : Ch S w (w1.alloc o) := h.next ((Below.refl _ _).alloc (Nat.le_refl _) o)
theorem Ch.setCell (h : Ch S w w1) {p : Addr} (hp : w.heap.size ≤ p.block ∨ S p.block) (u : Value) : Ch S w (w1.setCell p u) :=
  ⟨h.os, h.tape, h.output, by have := h.size; simp [World.setCell]; omega, fun i hi hn => (Below.heap_setCell w1 p u i (by
    rintro rfl
    rcases hp with h0 | h0
    · omega
    · exact hn h0)).trans (h.block i hi hn)⟩
theorem Ch.set_at {g : Nat} (h : Ch (At g) w w1) (i : Nat) (u : Value) : Ch (At g) w (w1.setCell ⟨g, i, none⟩ u) := h.setCell (.inr rfl) u
theorem Ch.cell (h : Ch S w w1) {p : Addr} {u : Value} (hc : w.cell? p = some u) (hp : ¬ S p.block) : w1.cell? p = some u :=
  (World.cell?_of_block (h.block p.block (World.block_lt_of_cell? w p hc) hp)).trans hc
theorem Ch.cellEq (h : Ch S w w1) {p : Addr} (hl : p.block < w.heap.size) (hp : ¬ S p.block) : w1.cell? p = w.cell? p := World.cell?_of_block (h.block p.block hl hp)
theorem Ch.frozenEq (h : Ch S w w1) {p : Addr} (hl : p.block < w.heap.size) (hp : ¬ S p.block) : w1.frozen? p = w.frozen? p := World.frozen?_of_block (h.block p.block hl hp)
theorem Row.ch {B : Nat} {A : Option Addr} {xs : List Value} (h : Row w B A xs) (k : Ch S w w1) (hB : B ≤ w.heap.size) (hS : ∀ i, S i → B ≤ i) : Row w1 B A xs :=
  h.keep fun p hp => k.cellEq (by omega) (fun hs => by have := hS _ hs; omega)
theorem Row.chA {B : Nat} {A : Option Addr} {xs : List Value} (h : Row w B A xs) (k : Ch S w w1) (hB : B ≤ w.heap.size) (hS : ∀ ad, A = some ad → ¬ S ad.block) : Row w1 B A xs := by
  rcases h with rfl | ⟨ad, e, hb, hc⟩
  · exact .inl rfl
  · exact .inr ⟨ad, e, hb, fun j hj => (k.cellEq (by rw [add_block]; omega) (by rw [add_block]; exact hS ad e)).trans (hc j hj)⟩
theorem own_ch {base : Nat} {e : TypeId} {size : Nat} {v : Value} {n : Nat} {xs : List Value} (h : w.ownsRow base e size v n xs) (k : Ch S w w1) (hS : ∀ g, v.ownBlock = some g → ¬ S g) : w1.ownsRow base e size v n xs := by
  refine ⟨h.1, ?_⟩
  rcases h.2 with hn | ⟨g, cap, cur, rfl, hb, hgg, rest⟩
  · exact .inl hn
  · exact .inr ⟨g, cap, cur, rfl, hb, (k.block g (Array.getElem?_eq_some_iff.1 hgg).1 (hS g rfl)).trans hgg, rest⟩
theorem own_mono {base base' : Nat} {e : TypeId} {size : Nat} {v : Value} {n : Nat} {xs : List Value} (h : w.ownsRow base e size v n xs) (hb : base' ≤ base) : w.ownsRow base' e size v n xs :=
  ⟨h.1, h.2.imp id fun ⟨g, cap, cur, hv, hg, r⟩ => ⟨g, cap, cur, hv, Nat.le_trans hb hg, r⟩⟩
theorem own_below {base : Nat} {e : TypeId} {size : Nat} {v : Value} {n : Nat} {xs : List Value} (h : w.ownsRow base e size v n xs) (k : Below w.heap.size w w1) : w1.ownsRow base e size v n xs :=
  own_ch h (S := NoB) (Ch.of_below k) (fun _ _ h => h)
end

/-- block g is just the cells cs of element type t, none of them frozen -/
def Blk (w : World) (g : Nat) (t : TypeId) (cs : Array Value) : Prop := w.heap[g]? = some (.cells cs t (0, 0))
section
variable {S : Nat → Prop} {w w' : World} {g : Nat} {t : TypeId} {cs : Array Value}
theorem Blk.lt (h : Blk w g t cs) : g < w.heap.size := by
  rcases Nat.lt_or_ge g w.heap.size with hlt | hge
  · exact hlt
  · unfold Blk at h; rw [Array.getElem?_eq_none hge] at h; cases h
theorem Blk.cell (h : Blk w g t cs) (i : Nat) : w.cell? ⟨g, i, none⟩ = cs[i]? := cell_of_row w g i cs t (0, 0) h
theorem Blk.frozen (h : Blk w g t cs) (i : Nat) : w.frozen? ⟨g, i, none⟩ = false := by
  unfold Blk at h
  simp [World.frozen?, h]
theorem Blk.new (w : World) (t : TypeId) (cs : Array Value) : Blk (w.alloc (.cells cs t)) w.heap.size t cs := heap_alloc_new w _
theorem Blk.drew (h : Blk w g t cs) : Blk w.drew g t cs := h
theorem Blk.drewN (h : Blk w g t cs) (n : Nat) : Blk (w.drewN n) g t cs := h
theorem Blk.alloc (h : Blk w g t cs) (o : Obj) : Blk (w.alloc o) g t cs := (Below.heap_alloc w o g h.lt).trans h
theorem Blk.set_ (h : Blk w g t cs) (i : Nat) (u : Value) : Blk (w.setCell ⟨g, i, none⟩ u) g t (cs.setIfInBounds i u) := by
  unfold Blk at h ⊢
  simp [World.setCell, Array.getElem?_modify, h]
theorem Blk.far (h : Blk w g t cs) {p : Addr} (hp : g ≠ p.block) (u : Value) : Blk (w.setCell p u) g t cs := (Below.heap_setCell w p u g hp).trans h
theorem Blk.ch (h : Blk w g t cs) (k : Ch S w w') (hg : ¬ S g) : Blk w' g t cs := (k.block g h.lt hg).trans h
theorem Blk.of (h : Blk w g t cs) (k : Below w.heap.size w w') : Blk w' g t cs := (k.block g h.lt).trans h
theorem Blk.ne_ {g' : Nat} {t' : TypeId} {cs' : Array Value} (h : Blk w g t cs) (h' : Blk w g' t' cs') (hne : t ≠ t') : g ≠ g' := by
  rintro rfl
  unfold Blk at h h'
  rw [h] at h'
  injection h' with h'
  injection h' with _ ht
  exact hne ht
theorem own_blk_ne {base : Nat} {e : TypeId} {size n : Nat} {v : Value} {xs : List Value} (h : w.ownsRow base e size v n xs) (hg : Blk w g t cs) (hne : e ≠ t) : v.ownBlock ≠ some g := by
  rcases h.2 with ⟨rfl, _⟩ | ⟨g', cap, cur, rfl, _, hh, _⟩
  · simp [Value.ownBlock]
  · intro he
    have : g' = g := by simpa [Value.ownBlock] using he
    subst this
    exact Blk.ne_ (t := e) hh hg hne rfl
/-- the cells vs put from o on -/
def putAll (cs : Array Value) : Nat → List Value → Array Value
  | _, [] => cs
  | o, v :: vs => putAll (cs.setIfInBounds o v) (o + 1) vs
theorem putAll_size (vs : List Value) : ∀ (cs : Array Value) (o : Nat), (putAll cs o vs).size = cs.size := by
  induction vs with
  | nil => intro cs o; rfl
  | cons v vs ih => intro cs o; simp only [putAll]; rw [ih]; simp
theorem putAll_get (vs : List Value) : ∀ (cs : Array Value) (o j : Nat), o + vs.length ≤ cs.size → (putAll cs o vs)[j]? = if o ≤ j ∧ j < o + vs.length then vs[j - o]? else cs[j]? := by
  induction vs with
  | nil => intro cs o j _; simp only [putAll, List.length_nil]; rw [if_neg (by omega)]
  | cons v vs ih =>
    intro cs o j h
    simp only [putAll, List.length_cons] at h ⊢
    rw [ih _ _ _ (by simp; omega)]
    by_cases e : j = o
    · subst e
      rw [if_neg (by omega), if_pos (by omega), Nat.sub_self, Array.getElem?_setIfInBounds_self_of_lt (by omega)]
      rfl
    · by_cases k : o + 1 ≤ j ∧ j < o + 1 + vs.length
      · rw [if_pos k, if_pos (by omega), show j - o = (j - (o + 1)) + 1 by omega]
        rfl
      · rw [if_neg k, if_neg (by omega), Array.getElem?_setIfInBounds_ne (Ne.symm e)]
theorem putAll_whole (cs : Array Value) (vs : List Value) (h : vs.length = cs.size) : putAll cs 0 vs = vs.toArray := by
  apply Array.ext_getElem?
  intro j
  rw [putAll_get vs cs 0 j (by omega)]
  by_cases k : j < vs.length
  · rw [if_pos (by omega), Nat.sub_zero]; simp
  · rw [if_neg (by omega), Array.getElem?_eq_none (by omega)]
    simp; omega
theorem Blk.puts (vs : List Value) : ∀ {w : World} {cs : Array Value} (o : Nat), Blk w g t cs → Blk (w.setCells g o vs) g t (putAll cs o vs) := by
  induction vs with
  | nil => intro w cs o h; exact h
  | cons v vs ih => intro w cs o h; exact ih (o + 1) (h.set_ o v)
/-- all its cells stored anew -/
theorem Blk.store (h : Blk w g t cs) (vs : Array Value) (hl : vs.size = cs.size) : Blk (w.setCells g 0 vs.toList) g t vs := by
  have := h.puts vs.toList 0
  rwa [putAll_whole cs vs.toList (by simpa using hl)] at this
theorem Blk.there (h : Blk w g t cs) : w.there g 0 cs.size := fun j hj => ⟨by rw [Nat.zero_add, h.cell, Array.getElem?_eq_getElem hj]; rfl, by rw [Nat.zero_add]; exact h.frozen j⟩
theorem Ch.setCells {a : World} (vs : List Value) : ∀ {w : World} (o : Nat), Ch S a w → (a.heap.size ≤ g ∨ S g) → Ch S a (w.setCells g o vs) := by
  induction vs with
  | nil => intro w o h _; exact h
  | cons v vs ih => intro w o h hg; exact ih (o + 1) (h.setCell (p := ⟨g, o, none⟩) hg v) hg
theorem Blk.row (h : Blk w g t cs) : Row w w.heap.size (some ⟨g, 0, none⟩) cs.toList :=
  .inr ⟨_, rfl, h.lt, fun j hj => by
    rw [show (⟨g, 0, none⟩ : Addr).add j = ⟨g, j, none⟩ by unfold Addr.add; split <;> simp_all, h.cell, Array.getElem?_toList]⟩
theorem Blk.ne_new {o : Obj} (h : Blk w g t cs) : g ≠ w.heap.size := Nat.ne_of_lt h.lt
end

end Go.Proofs.Ytnjhipnfhapngaa
