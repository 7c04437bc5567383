/-
  Slice, Own, Ch, RegC.
-/
import Derived.Test.YtpoiejgoongllaaReg0
import Derived.Maps.AppendAt
import Derived.Deep.AppendLies
import Derived.RegionTactic
import Derived.OwnWalk
import Derived.Deep.MidRow
namespace Go.Proofs.Ytpoiejgoongllaa
/- Slice:
  A slice that reads as a list of cells, nil and empty ones let in; and how that carries over.
-/
section
set_option linter.unusedVariables false
set_option linter.unusedSimpArgs false
set_option linter.unnecessarySimpa false
open Go.RowKit Go.Lib

theorem add_block (a : Addr) (n : Nat) : (a.add n).block = a.block := by unfold Addr.add; split <;> rfl
theorem add_add (a : Addr) (i j : Nat) : (a.add i).add j = a.add (i + j) := by
  unfold Addr.add
  by_cases hi : i = 0 <;> by_cases hj : j = 0 <;> simp [hi, hj, Nat.add_assoc]

/-- the cells from address A on are xs, and lie below block B; of an empty row nothing is said -/
def Row (w : World) (B : Nat) (A : Option Addr) (xs : List Value) : Prop :=
  xs = [] ∨ ∃ ad, A = some ad ∧ ad.block < B ∧ ∀ j, j < xs.length → w.cell? (ad.add j) = xs[j]?

theorem Row.nil {w : World} {B : Nat} {A : Option Addr} : Row w B A [] := .inl rfl
theorem Row.at_ {w : World} {B : Nat} {A : Option Addr} {xs : List Value} (h : Row w B A xs) {k : Nat} (hk : k < xs.length) :
    ∃ ad, A = some ad ∧ ad.block < B ∧ w.cell? (ad.add k) = some xs[k] := by
  rcases h with rfl | ⟨ad, e, hb, hc⟩
  · simp at hk
  · exact ⟨ad, e, hb, (hc k hk).trans (List.getElem?_eq_getElem hk)⟩
theorem Row.keep {w w' : World} {B : Nat} {A : Option Addr} {xs : List Value} (h : Row w B A xs) (hk : ∀ p : Addr, p.block < B → w'.cell? p = w.cell? p) : Row w' B A xs := by
  rcases h with rfl | ⟨ad, e, hb, hc⟩
  · exact .inl rfl
  · exact .inr ⟨ad, e, hb, fun j hj => (hk _ (by rw [add_block]; exact hb)).trans (hc j hj)⟩
theorem Row.below {w w' : World} {B N : Nat} {A : Option Addr} {xs : List Value} (h : Row w B A xs) (hb : Below N w w') (hB : B ≤ N) : Row w' B A xs :=
  h.keep fun p hp => hb.cell (by omega)
theorem Row.more {w : World} {B B' : Nat} {A : Option Addr} {xs : List Value} (h : Row w B A xs) (hB : B ≤ B') : Row w B' A xs := by
  rcases h with rfl | ⟨ad, e, hb, hc⟩
  · exact .inl rfl
  · exact .inr ⟨ad, e, by omega, hc⟩
/-- a part of a row: s[lo:hi] -/
theorem Row.cut {w : World} {B : Nat} {A : Option Addr} {xs : List Value} (h : Row w B A xs) (lo m : Nat) : Row w B (A.map (·.add lo)) ((xs.drop lo).take m) := by
  rcases h with rfl | ⟨ad, rfl, hb, hc⟩
  · left; simp
  · right
    refine ⟨ad.add lo, rfl, by rw [add_block]; exact hb, fun j hj => ?_⟩
    simp at hj
    rw [add_add, hc (lo + j) (by omega)]
    rw [List.getElem?_take, if_pos (by omega), List.getElem?_drop]
theorem Row.cut' {w : World} {B : Nat} {A : Option Addr} {xs : List Value} (h : Row w B A xs) {lo m cap : Nat} (hc : lo = cap → m = 0 ∨ xs.length ≤ lo) :
    Row w B (if cap = lo then A else A.map (·.add lo)) ((xs.drop lo).take m) := by
  split
  · rename_i e
    left
    rcases hc e.symm with h0 | h0
    · subst h0; simp
    · rw [List.drop_eq_nil_of_le h0]; simp
  · exact h.cut lo m
end

/- Own:
  append onto a slice of the call's own, the source nil or not, said of values whose shape is written out; facts on element types in one bundle.
-/
section
set_option linter.unusedVariables false
set_option linter.unusedSimpArgs false
set_option linter.unnecessarySimpa false
open Go.RowKit Go.Lib

/-- the slice type t has elements of type e, of so many cells and bytes -/
structure Elem (P : Program) (t e : TypeId) (size bytes : Nat) : Prop where
  ht : P.underlying t = some (.slice e)
  hi : ∃ i z, P.info? e = some i ∧ i.zero = some z ∧ i.size = size ∧ i.bytes = bytes ∧ z.cells.size = size
  hsz : 0 < size

theorem elem_mk {P : Program} {t e : TypeId} {z : Value} {size bytes : Nat} (ht : P.underlying t = some (.slice e))
    (hi : (P.info? e).map (fun i => (i.zero, i.size, i.bytes)) = some (some z, size, bytes)) (hc : z.cells.size = size) (hsz : 0 < size) : Elem P t e size bytes := by
  obtain ⟨i, h1, h2, h3, h4⟩ := info_parts hi
  exact ⟨ht, ⟨i, z, h1, h2, h3, h4, hc⟩, hsz⟩

theorem own_form {w : World} {base : Nat} {e : TypeId} {size : Nat} {v : Value} {n : Nat} {xs : List Value} (h : w.ownsRow base e size v n xs) : ∃ A cap, v = .slice A n cap ∧ n ≤ cap := by
  rcases h.2 with ⟨rfl, rfl⟩ | ⟨g, cap, cur, rfl, _, _, hc, _⟩
  · exact ⟨none, 0, rfl, Nat.le_refl _⟩
  · exact ⟨_, cap, rfl, hc⟩
theorem own_row {w : World} {base : Nat} {e : TypeId} {size : Nat} {A : Option Addr} {n cap : Nat} {xs : List Value} (h : w.ownsRow base e size (.slice A n cap) n xs) : Row w w.heap.size A xs := by
  rcases h.2 with ⟨hv, h0⟩ | ⟨g, cap', cur, hv, _, hh, _⟩
  · left
    have := h.1
    rw [h0] at this
    exact List.eq_nil_of_length_eq_zero (by simpa using this)
  · right
    injection hv with hA
    subst hA
    refine ⟨_, rfl, ?_, fun j hj => ?_⟩
    · rcases Nat.lt_or_ge g w.heap.size with hl | hg
      · exact hl
      · rw [Array.getElem?_eq_none hg] at hh; cases hh
    · rw [List.getElem?_eq_getElem hj]
      exact h.cells (g := g) rfl j _ (List.getElem?_eq_getElem hj)
theorem own_lt {w : World} {base : Nat} {e : TypeId} {size : Nat} {v : Value} {n : Nat} {xs : List Value} (h : w.ownsRow base e size v n xs) : ∀ k, v.ownBlock = some k → base ≤ k := fun k hk => (h.lt k hk).1
theorem own_cap {w : World} {base : Nat} {e : TypeId} {size : Nat} {A : Option Addr} {n cap : Nat} {xs : List Value} (h : w.ownsRow base e size (.slice A n cap) n xs) : n ≤ cap ∧ cap ≤ 9223372036854775807 := by
  rcases h.2 with ⟨hv, h0⟩ | ⟨g, cap', cur, hv, _, _, hc, hm, _⟩
  · injection hv with _ h1 h2
    subst h1; subst h2; exact ⟨Nat.le_refl _, by omega⟩
  · injection hv with _ _ h2
    subst h2
    simp only [maxLen] at hm
    exact ⟨hc, by omega⟩

section
variable {P : Program} {w : World}

theorem run_append_nil_src (base : Nat) {t ty e : TypeId} {size bytes : Nat} (E : Elem P t e size bytes)
    (v : Value) (n : Nat) (xs : List Value) (hown : w.ownsRow base e size v n xs) (c : Nat) : (Builtin.append_ #[t, t] ty #[v, .slice none 0 c]).run P w = .ok v w := by
  obtain ⟨i, z, hi, _⟩ := E.hi
  rcases hown.2 with ⟨rfl, rfl⟩ | ⟨g, cap, cur, rfl, _, _, hnc, _⟩
  · simp [Builtin.append_, run_underlying E.ht, sizeOf, typeInfo, hi, Builtin.lenOf, Builtin.firstCells]
  · simp [Builtin.append_, run_underlying E.ht, sizeOf, typeInfo, hi, Builtin.lenOf, Builtin.firstCells, hnc, storeCells]

theorem run_append_row (base : Nat) {t ty e : TypeId} {size bytes : Nat} (E : Elem P t e size bytes)
    (v : Value) (n : Nat) (xs : List Value) (hown : w.ownsRow base e size v n xs)
    (B : Nat) (A : Option Addr) (m c : Nat) (news : List Value) (hl : news.length = m * size) (hr : Row w B A news) (h1 : ∀ u ∈ news, u.oneCell' = true)
    (h63 : n + m ≤ maxLen) (hbytes : (n + m) * bytes ≤ 140737488355328) (hbase : base ≤ w.heap.size) :
    ∃ A' cap' w', (Builtin.append_ #[t, t] ty #[v, .slice A m c]).run P w = .ok (.slice A' (n + m) cap') w' ∧ w'.ownsRow base e size (.slice A' (n + m) cap') (n + m) (xs ++ news) ∧ w.grownBy w' v.ownBlock ∧
      ((Value.slice A' (n + m) cap').ownBlock = v.ownBlock ∨ (Value.slice A' (n + m) cap').ownBlock = some w.heap.size) := by
  rcases A with _ | ad
  · have hm : m = 0 := by
      rcases hr with rfl | ⟨ad, h, _⟩
      · have h0 : m * size = 0 := by simpa using hl.symm
        rcases Nat.mul_eq_zero.1 h0 with h | h
        · exact h
        · have := E.hsz; omega
      · cases h
    subst hm
    have hn : news = [] := List.eq_nil_of_length_eq_zero (by simpa using hl)
    subst hn
    obtain ⟨A', cap', rfl, _⟩ := own_form hown
    exact ⟨A', cap', w, run_append_nil_src base E _ n xs hown c, by simpa using hown, ⟨rfl, rfl, rfl, Nat.le_refl _, fun _ _ _ => rfl⟩, .inl rfl⟩
  · obtain ⟨i, z, hi, hz, hs, hb, hzs⟩ := E.hi
    have hcells : ∀ j u, news[j]? = some u → w.cell? (ad.add j) = some u := by
      intro j u hu
      rcases hr with rfl | ⟨ad', h, _, hc⟩
      · simp at hu
      · injection h with h
        subst h
        have hj : j < news.length := by
          rcases Nat.lt_or_ge j news.length with h | h
          · exact h
          · rw [List.getElem?_eq_none h] at hu; cases hu
        rw [hc j hj, hu]
    obtain ⟨v', w', hrun, h2, h3, _, h5⟩ := run_append_own_at (P := P) w base t ty e i z size bytes E.ht hi hz hs hb hzs E.hsz v n xs hown ad m c news hl hcells h1 h63 hbytes hbase
    obtain ⟨A', cap', rfl, _⟩ := own_form h2
    exact ⟨A', cap', w', hrun, h2, h3, h5⟩

theorem wp_append_row {o : Oper} {a : Act} {K : Act → World → Prop} {Q : Exit → Act → World → Prop} (s x : Operand) {t : TypeId}
    (ho : o.op = .call { callee := .builtin .append, args := #[s, x], argTypes := #[t, t] })
    (base : Nat) {e : TypeId} {size bytes : Nat} (E : Elem P t e size bytes)
    {v : Value} {n : Nat} {xs : List Value} (hs : a.eval s = v) (hown : w.ownsRow base e size v n xs)
    (B : Nat) {A : Option Addr} {m c : Nat} {news : List Value} (hx : a.eval x = .slice A m c) (hl : news.length = m * size) (hr : Row w B A news) (h1 : ∀ u ∈ news, u.oneCell' = true)
    (h63 : n + m ≤ maxLen) (hbytes : (n + m) * bytes ≤ 140737488355328) (hbase : base ≤ w.heap.size)
    (h : ∀ A' cap' w', w'.ownsRow base e size (.slice A' (n + m) cap') (n + m) (xs ++ news) → w.grownBy w' v.ownBlock →
      ((Value.slice A' (n + m) cap').ownBlock = v.ownBlock ∨ (Value.slice A' (n + m) cap').ownBlock = some w.heap.size) → K (a.put o.dst (.slice A' (n + m) cap')) w') : o.wp P a w K Q := by
  obtain ⟨A', cap', w', hrun, h2, h3, h4⟩ := run_append_row (P := P) (w := w) (ty := o.type) base E v n xs hown B A m c news hl hr h1 h63 hbytes hbase
  unfold Oper.wp execOp
  simp only [ho, resolve, invoke, builtin, Sem.run_bind, Sem.run_pure, Result.andThen_ok, List.map_toArray, List.map_cons, List.map_nil, hs, hx, hrun]
  exact h A' cap' w' h2 h3 h4

theorem wpList_append_row {ops : Array Oper} {rest : List Oper} {o : Oper} {a : Act} {Q : Exit → Act → World → Prop} (hgd : o.guard = none) (s x : Operand) {t : TypeId}
    (ho : o.op = .call { callee := .builtin .append, args := #[s, x], argTypes := #[t, t] })
    (base : Nat) {e : TypeId} {size bytes : Nat} (E : Elem P t e size bytes)
    {v : Value} {n : Nat} {xs : List Value} (hs : a.eval s = v) (hown : w.ownsRow base e size v n xs)
    (B : Nat) {A : Option Addr} {m c : Nat} {news : List Value} (hx : a.eval x = .slice A m c) (hl : news.length = m * size) (hr : Row w B A news) (h1 : ∀ u ∈ news, u.oneCell' = true)
    (h63 : n + m ≤ maxLen) (hbytes : (n + m) * bytes ≤ 140737488355328) (hbase : base ≤ w.heap.size)
    (h : ∀ A' cap' w', w'.ownsRow base e size (.slice A' (n + m) cap') (n + m) (xs ++ news) → w.grownBy w' v.ownBlock →
      ((Value.slice A' (n + m) cap').ownBlock = v.ownBlock ∨ (Value.slice A' (n + m) cap').ownBlock = some w.heap.size) → wpList P ops Q rest (a.put o.dst (.slice A' (n + m) cap')) w') : wpList P ops Q (o :: rest) a w :=
  wpList_plain hgd fun _ hK => wp_append_row s x ho base E hs hown B hx hl hr h1 h63 hbytes hbase fun A' cap' w' h2 h3 h4 => hK _ _ (h A' cap' w' h2 h3 h4)

theorem step_append_row {ops : Array Oper} {o : Oper} {a : Act} {K : Act → World → Prop} {Q : Exit → Act → World → Prop} {C : Prop} (hgd : o.guard = none) (s x : Operand) {t : TypeId}
    (ho : o.op = .call { callee := .builtin .append, args := #[s, x], argTypes := #[t, t] })
    (base : Nat) {e : TypeId} {size bytes : Nat} (E : Elem P t e size bytes)
    {v : Value} {n : Nat} {xs : List Value} (hs : a.eval s = v) (hown : w.ownsRow base e size v n xs)
    (B : Nat) {A : Option Addr} {m c : Nat} {news : List Value} (hx : a.eval x = .slice A m c) (hl : news.length = m * size) (hr : Row w B A news) (h1 : ∀ u ∈ news, u.oneCell' = true)
    (h63 : n + m ≤ maxLen) (hbytes : (n + m) * bytes ≤ 140737488355328) (hbase : base ≤ w.heap.size)
    (h : ∀ A' cap' w', w'.ownsRow base e size (.slice A' (n + m) cap') (n + m) (xs ++ news) → w.grownBy w' v.ownBlock →
      ((Value.slice A' (n + m) cap').ownBlock = v.ownBlock ∨ (Value.slice A' (n + m) cap').ownBlock = some w.heap.size) → K (a.put o.dst (.slice A' (n + m) cap')) w') :
    if Region.wanted o (yielded ops a.tmps) = true then Oper.wp P o a w K Q else C := by
  have hw : Region.wanted o (yielded ops a.tmps) = true := by simp [Region.wanted, hgd]
  rw [if_pos hw]
  exact wp_append_row s x ho base E hs hown B hx hl hr h1 h63 hbytes hbase h
end

/-- 'grownBy' from base on leaves what is below base -/
theorem below_grown {w w' : World} {base : Nat} {v : Value} (hg : w.grownBy w' v.ownBlock) (hb : base ≤ w.heap.size) (hv : ∀ k, v.ownBlock = some k → base ≤ k) : Below base w w' :=
  (Below.refl _ _).grown hg hb hv

theorem elem_u8 : Elem Try.prog 38 5 1 1 := elem_mk (z := .int .u8 0) Try.underlying38 (by kernel_rfl) rfl (by omega)
theorem elem_bytes : Elem Try.prog 26 38 1 24 := elem_mk (z := .slice none 0 0) Try.underlying26 (by kernel_rfl) rfl (by omega)
end

/- Ch:
  What a call may change: 'Ch S w w'': all blocks of w but those of S are as they were in w', nothing has gone. And a block that is known whole.
-/
section
set_option linter.unusedVariables false
set_option linter.unusedSimpArgs false
set_option linter.unnecessarySimpa false
open Go.RowKit Go.Lib

/-- all blocks of w but those of S are in w' as they were -/
structure Ch (S : Nat → Prop) (w w' : World) : Prop where
  os : w'.os = w.os
  tape : w'.tape = w.tape
  output : w'.output = w.output
  size : w.heap.size ≤ w'.heap.size
  block : ∀ k, k < w.heap.size → ¬ S k → w'.heap[k]? = w.heap[k]?

/-- no block changes -/
abbrev NoB : Nat → Prop := fun _ => False
/-- block g alone may change -/
abbrev At (g : Nat) : Nat → Prop := fun k => k = g
abbrev At2 (g h : Nat) : Nat → Prop := fun k => k = g ∨ k = h

section
variable {S T : Nat → Prop} {w w' w1 w2 : World}
theorem Ch.refl (S : Nat → Prop) (w : World) : Ch S w w := ⟨rfl, rfl, rfl, Nat.le_refl _, fun _ _ _ => rfl⟩
theorem Ch.trans (h : Ch S w w1) (k : Ch S w1 w2) : Ch S w w2 :=
  ⟨k.os.trans h.os, k.tape.trans h.tape, k.output.trans h.output, Nat.le_trans h.size k.size, fun i hi hn => (k.block i (Nat.lt_of_lt_of_le hi h.size) hn).trans (h.block i hi hn)⟩
theorem Ch.mono (h : Ch S w w1) (hs : ∀ k, k < w.heap.size → S k → T k) : Ch T w w1 := ⟨h.os, h.tape, h.output, h.size, fun i hi hn => h.block i hi (fun k => hn (hs i hi k))⟩
theorem Ch.of_below (h : Below w.heap.size w w1) : Ch S w w1 := ⟨h.os, h.tape, h.output, h.size, fun i hi _ => h.block i hi⟩
theorem Ch.of_grown {g : Nat} (h : w.grownBy w1 (some g)) : Ch (At g) w w1 := ⟨h.os, h.tape, h.output, h.size, fun i hi hn => h.block i hi (fun e => hn (by injection e))⟩
theorem Ch.of_own {v : Value} (h : w.grownBy w1 v.ownBlock) : Ch (fun k => v.ownBlock = some k) w w1 := ⟨h.os, h.tape, h.output, h.size, fun i hi hn => h.block i hi (fun e => hn e.symm)⟩
/-- below N all is as it was, if what may change lies from N on -/
theorem Ch.below {N : Nat} (h : Ch S w w1) (hN : N ≤ w.heap.size) (hs : ∀ k, S k → N ≤ k) : Below N w w1 :=
  ⟨h.os, h.tape, h.output, h.size, fun i hi => h.block i (by omega) (fun k => by have := hs i k; omega)⟩
theorem Ch.grew (h : Ch NoB w w1) : Below w.heap.size w w1 := h.below (Nat.le_refl _) (fun _ h => h.elim)
theorem Ch.next (h : Ch S w w1) (k : Below w1.heap.size w1 w2) : Ch S w w2 := h.trans (Ch.of_below k)
/-- .. and what the second step changes was not there at the first's beginning -/
theorem Ch.nextNew (h : Ch S w w1) (k : Ch T w1 w2) (hs : ∀ i, T i → w.heap.size ≤ i ∨ S i) : Ch S w w2 :=
  ⟨k.os.trans h.os, k.tape.trans h.tape, k.output.trans h.output, Nat.le_trans h.size k.size, fun i hi hn => (k.block i (Nat.lt_of_lt_of_le hi h.size) (fun t => by
    rcases hs i t with h0 | h0
    · omega
    · exact hn h0)).trans (h.block i hi hn)⟩
theorem Ch.drew (h : Ch S w w1) : Ch S w w1.drew := ⟨h.os, h.tape, h.output, h.size, h.block⟩
theorem Ch.drewN (h : Ch S w w1) (n : Nat) : Ch S w (w1.drewN n) := ⟨h.os, h.tape, h.output, h.size, h.block⟩
theorem Ch.drawn (h : Ch S w w1) (k : Drawn w1 w2) : Ch S w w2 := by obtain ⟨n, rfl⟩ := k; exact h.drewN n
theorem Ch.alloc (h : Ch S w w1) (o : Obj) : Ch S w (w1.alloc o) := h.next ((Below.refl _ _).alloc (Nat.le_refl _) o)
theorem Ch.setCell (h : Ch S w w1) {p : Addr} (hp : w.heap.size ≤ p.block ∨ S p.block) (u : Value) : Ch S w (w1.setCell p u) :=
  ⟨h.os, h.tape, h.output, by have := h.size; simp [World.setCell]; omega, fun i hi hn => (Below.heap_setCell w1 p u i (by
    rintro rfl
    rcases hp with h0 | h0
    · omega
    · exact hn h0)).trans (h.block i hi hn)⟩
theorem Ch.set_at {g : Nat} (h : Ch (At g) w w1) (i : Nat) (u : Value) : Ch (At g) w (w1.setCell ⟨g, i, none⟩ u) := h.setCell (.inr rfl) u
theorem Ch.cell (h : Ch S w w1) {p : Addr} {u : Value} (hc : w.cell? p = some u) (hp : ¬ S p.block) : w1.cell? p = some u :=
  (World.cell?_of_block (h.block p.block (World.block_lt_of_cell? w p hc) hp)).trans hc
theorem Ch.cellEq (h : Ch S w w1) {p : Addr} (hl : p.block < w.heap.size) (hp : ¬ S p.block) : w1.cell? p = w.cell? p := World.cell?_of_block (h.block p.block hl hp)
theorem Ch.frozenEq (h : Ch S w w1) {p : Addr} (hl : p.block < w.heap.size) (hp : ¬ S p.block) : w1.frozen? p = w.frozen? p := World.frozen?_of_block (h.block p.block hl hp)
theorem Row.ch {B : Nat} {A : Option Addr} {xs : List Value} (h : Row w B A xs) (k : Ch S w w1) (hB : B ≤ w.heap.size) (hS : ∀ i, S i → B ≤ i) : Row w1 B A xs :=
  h.keep fun p hp => k.cellEq (by omega) (fun hs => by have := hS _ hs; omega)
theorem Row.chA {B : Nat} {A : Option Addr} {xs : List Value} (h : Row w B A xs) (k : Ch S w w1) (hB : B ≤ w.heap.size) (hS : ∀ ad, A = some ad → ¬ S ad.block) : Row w1 B A xs := by
  rcases h with rfl | ⟨ad, e, hb, hc⟩
  · exact .inl rfl
  · exact .inr ⟨ad, e, hb, fun j hj => (k.cellEq (by rw [add_block]; omega) (by rw [add_block]; exact hS ad e)).trans (hc j hj)⟩
theorem own_ch {base : Nat} {e : TypeId} {size : Nat} {v : Value} {n : Nat} {xs : List Value} (h : w.ownsRow base e size v n xs) (k : Ch S w w1) (hS : ∀ g, v.ownBlock = some g → ¬ S g) : w1.ownsRow base e size v n xs := by
  refine ⟨h.1, ?_⟩
  rcases h.2 with hn | ⟨g, cap, cur, rfl, hb, hgg, rest⟩
  · exact .inl hn
  · exact .inr ⟨g, cap, cur, rfl, hb, (k.block g (Array.getElem?_eq_some_iff.1 hgg).1 (hS g rfl)).trans hgg, rest⟩
theorem own_mono {base base' : Nat} {e : TypeId} {size : Nat} {v : Value} {n : Nat} {xs : List Value} (h : w.ownsRow base e size v n xs) (hb : base' ≤ base) : w.ownsRow base' e size v n xs :=
  ⟨h.1, h.2.imp id fun ⟨g, cap, cur, hv, hg, r⟩ => ⟨g, cap, cur, hv, Nat.le_trans hb hg, r⟩⟩
theorem own_below {base : Nat} {e : TypeId} {size : Nat} {v : Value} {n : Nat} {xs : List Value} (h : w.ownsRow base e size v n xs) (k : Below w.heap.size w w1) : w1.ownsRow base e size v n xs :=
  own_ch h (S := NoB) (Ch.of_below k) (fun _ _ h => h)
end

/-- block g is just the cells cs of element type t, none of them frozen -/
def Blk (w : World) (g : Nat) (t : TypeId) (cs : Array Value) : Prop := w.heap[g]? = some (.cells cs t (0, 0))
section
variable {S : Nat → Prop} {w w' : World} {g : Nat} {t : TypeId} {cs : Array Value}
theorem Blk.lt (h : Blk w g t cs) : g < w.heap.size := by
  rcases Nat.lt_or_ge g w.heap.size with hlt | hge
  · exact hlt
  · unfold Blk at h; rw [Array.getElem?_eq_none hge] at h; cases h
theorem Blk.cell (h : Blk w g t cs) (i : Nat) : w.cell? ⟨g, i, none⟩ = cs[i]? := cell_of_row w g i cs t (0, 0) h
theorem Blk.frozen (h : Blk w g t cs) (i : Nat) : w.frozen? ⟨g, i, none⟩ = false := by
  unfold Blk at h
  simp [World.frozen?, h]
theorem Blk.new (w : World) (t : TypeId) (cs : Array Value) : Blk (w.alloc (.cells cs t)) w.heap.size t cs := heap_alloc_new w _
theorem Blk.drew (h : Blk w g t cs) : Blk w.drew g t cs := h
theorem Blk.drewN (h : Blk w g t cs) (n : Nat) : Blk (w.drewN n) g t cs := h
theorem Blk.alloc (h : Blk w g t cs) (o : Obj) : Blk (w.alloc o) g t cs := (Below.heap_alloc w o g h.lt).trans h
theorem Blk.set_ (h : Blk w g t cs) (i : Nat) (u : Value) : Blk (w.setCell ⟨g, i, none⟩ u) g t (cs.setIfInBounds i u) := by
  unfold Blk at h ⊢
  simp [World.setCell, Array.getElem?_modify, h]
theorem Blk.far (h : Blk w g t cs) {p : Addr} (hp : g ≠ p.block) (u : Value) : Blk (w.setCell p u) g t cs := (Below.heap_setCell w p u g hp).trans h
theorem Blk.ch (h : Blk w g t cs) (k : Ch S w w') (hg : ¬ S g) : Blk w' g t cs := (k.block g h.lt hg).trans h
theorem Blk.of (h : Blk w g t cs) (k : Below w.heap.size w w') : Blk w' g t cs := (k.block g h.lt).trans h
theorem Blk.ne_ {g' : Nat} {t' : TypeId} {cs' : Array Value} (h : Blk w g t cs) (h' : Blk w g' t' cs') (hne : t ≠ t') : g ≠ g' := by
  rintro rfl
  unfold Blk at h h'
  rw [h] at h'
  injection h' with h'
  injection h' with _ ht
  exact hne ht
theorem own_blk_ne {base : Nat} {e : TypeId} {size n : Nat} {v : Value} {xs : List Value} (h : w.ownsRow base e size v n xs) (hg : Blk w g t cs) (hne : e ≠ t) : v.ownBlock ≠ some g := by
  rcases h.2 with ⟨rfl, _⟩ | ⟨g', cap, cur, rfl, _, hh, _⟩
  · simp [Value.ownBlock]
  · intro he
    have : g' = g := by simpa [Value.ownBlock] using he
    subst this
    exact Blk.ne_ (t := e) hh hg hne rfl
/-- the cells vs put from o on -/
def putAll (cs : Array Value) : Nat → List Value → Array Value
  | _, [] => cs
  | o, v :: vs => putAll (cs.setIfInBounds o v) (o + 1) vs
theorem putAll_size (vs : List Value) : ∀ (cs : Array Value) (o : Nat), (putAll cs o vs).size = cs.size := by
  induction vs with
  | nil => intro cs o; rfl
  | cons v vs ih => intro cs o; simp only [putAll]; rw [ih]; simp
theorem putAll_get (vs : List Value) : ∀ (cs : Array Value) (o j : Nat), o + vs.length ≤ cs.size → (putAll cs o vs)[j]? = if o ≤ j ∧ j < o + vs.length then vs[j - o]? else cs[j]? := by
  induction vs with
  | nil => intro cs o j _; simp only [putAll, List.length_nil]; rw [if_neg (by omega)]
  | cons v vs ih =>
    intro cs o j h
    simp only [putAll, List.length_cons] at h ⊢
    rw [ih _ _ _ (by simp; omega)]
    by_cases e : j = o
    · subst e
      rw [if_neg (by omega), if_pos (by omega), Nat.sub_self, Array.getElem?_setIfInBounds_self_of_lt (by omega)]
      rfl
    · by_cases k : o + 1 ≤ j ∧ j < o + 1 + vs.length
      · rw [if_pos k, if_pos (by omega), show j - o = (j - (o + 1)) + 1 by omega]
        rfl
      · rw [if_neg k, if_neg (by omega), Array.getElem?_setIfInBounds_ne (Ne.symm e)]
theorem putAll_whole (cs : Array Value) (vs : List Value) (h : vs.length = cs.size) : putAll cs 0 vs = vs.toArray := by
  apply Array.ext_getElem?
  intro j
  rw [putAll_get vs cs 0 j (by omega)]
  by_cases k : j < vs.length
  · rw [if_pos (by omega), Nat.sub_zero]; simp
  · rw [if_neg (by omega), Array.getElem?_eq_none (by omega)]
    simp; omega
theorem Blk.puts (vs : List Value) : ∀ {w : World} {cs : Array Value} (o : Nat), Blk w g t cs → Blk (w.setCells g o vs) g t (putAll cs o vs) := by
  induction vs with
  | nil => intro w cs o h; exact h
  | cons v vs ih => intro w cs o h; exact ih (o + 1) (h.set_ o v)
/-- all its cells stored anew -/
theorem Blk.store (h : Blk w g t cs) (vs : Array Value) (hl : vs.size = cs.size) : Blk (w.setCells g 0 vs.toList) g t vs := by
  have := h.puts vs.toList 0
  rwa [putAll_whole cs vs.toList (by simpa using hl)] at this
theorem Blk.there (h : Blk w g t cs) : w.there g 0 cs.size := fun j hj => ⟨by rw [Nat.zero_add, h.cell, Array.getElem?_eq_getElem hj]; rfl, by rw [Nat.zero_add]; exact h.frozen j⟩
theorem Ch.setCells {a : World} (vs : List Value) : ∀ {w : World} (o : Nat), Ch S a w → (a.heap.size ≤ g ∨ S g) → Ch S a (w.setCells g o vs) := by
  induction vs with
  | nil => intro w o h _; exact h
  | cons v vs ih => intro w o h hg; exact ih (o + 1) (h.setCell (p := ⟨g, o, none⟩) hg v) hg
theorem Blk.row (h : Blk w g t cs) : Row w w.heap.size (some ⟨g, 0, none⟩) cs.toList :=
  .inr ⟨_, rfl, h.lt, fun j hj => by
    rw [show (⟨g, 0, none⟩ : Addr).add j = ⟨g, j, none⟩ by unfold Addr.add; split <;> simp_all, h.cell, Array.getElem?_toList]⟩
theorem Blk.ne_new {o : Obj} (h : Blk w g t cs) : g ≠ w.heap.size := Nat.ne_of_lt h.lt
end
end

/- RegC:
  A region that draws its order, walked once: an operation may be taken first, whoever else may come before it, if it yields the same value in every
  world of a class C to which all operations of the region keep. C is closed under new blocks. What may write keeps to C by a proof of its own.
-/
section
set_option linter.unusedVariables false
set_option linter.unusedSimpArgs false
set_option linter.unnecessarySimpa false
open Go Go.RowKit

section
variable {P : Program} {ops : Array Oper} {Q : Exit → Act → World → Prop} {md : Region.Mode} {C : World → Prop}

/-- Q, but no panic -/
def noP (Q : Exit → Act → World → Prop) : Exit → Act → World → Prop := fun e a w => match e with
  | .panic _ => False
  | e => Q e a w
theorem noP_put {o : Oper} {v : Value} : ∀ c a w, noP Q (.panic c) (a.put o.dst v) w → noP Q (.panic c) a w := fun _ _ _ h => h
theorem noP_imp : ∀ e a w, noP Q e a w → Q e a w := fun e a w h => by cases e <;> first | exact h | exact h.elim
theorem letsOut_imp {Q Q' : Exit → Act → World → Prop} (h : ∀ e a w, Q e a w → Q' e a w) : LetsOut Q → LetsOut Q' := fun ⟨a, w, k⟩ => ⟨a, w, h _ _ _ k⟩
theorem wp_impQ {Q Q' : Exit → Act → World → Prop} {o : Oper} {a : Act} {w : World} {K : Act → World → Prop} (h : ∀ e a w, Q e a w → Q' e a w) (hh : o.wp P a w K Q) : o.wp P a w K Q' := by
  unfold Oper.wp at *
  generalize (execOp a.eval o).run P w = r at *
  cases r with
  | ok n w' =>
    cases n <;> simp only [Oper.upon] at hh ⊢ <;>
      first
        | exact hh
        | exact Calls.mono hh (fun e w'' he => by cases e <;> first | exact he | exact h _ _ _ he | exact letsOut_imp h he)
  | halt x w' => cases x <;> simp only [Oper.upon] at hh ⊢ <;> first | exact hh | exact h _ _ _ hh
theorem wpOp_impQ {Q Q' : Exit → Act → World → Prop} {i : Nat} {a : Act} {w : World} {K : Act → World → Prop} (h : ∀ e a w, Q e a w → Q' e a w) (hh : wpOp P ops Q i K a w) : wpOp P ops Q' i K a w := by
  unfold wpOp at *
  split
  · rename_i ho; simp only [ho] at hh; exact hh
  · rename_i o ho
    simp only [ho] at hh
    split
    · rename_i hw; simp only [hw, if_true] at hh; exact hh.imp (wp_impQ h) (fun k => ⟨k.1, letsOut_imp h k.2⟩)
    · rename_i hw; simp only [hw] at hh; exact hh
theorem wpAny_impQ {Q Q' : Exit → Act → World → Prop} (h : ∀ e a w, Q e a w → Q' e a w) : ∀ (fuel : Nat) (listed : Array Bool) (a : Act) (w : World), wpAny P md ops Q fuel listed a w → wpAny P md ops Q' fuel listed a w
  | 0, _, _, _, hh => ⟨hh.1, h _ _ _ hh.2⟩
  | fuel + 1, _, _, _, hh => ⟨fun h0 => h _ _ _ (hh.1 h0), fun i hi => wpOp_impQ h (wpOp_mono (fun a' w' k => wpAny_impQ h fuel _ a' w' k) (hh.2 i hi))⟩

/-- in every world of C operation o yields v: at once, by a call that lays new blocks alone, or because its guard is shut -/
def YieldsC (P : Program) (ops : Array Oper) (C : World → Prop) (o : Oper) (v : Value) (a : Act) : Prop :=
  (Region.wanted o (yielded ops a.tmps) = true ∧ ∀ w', C w' →
    (execOp a.eval o).run P w' = .ok (.value v) w' ∨ ∃ f args, (execOp a.eval o).run P w' = .ok (.enter f args) w' ∧ Calls P f args w' (fun e w'' => e = .returned v ∧ Grew w' w'')) ∨
  (Region.wanted o (yielded ops a.tmps) = false ∧ v = undef)
theorem YieldsC.same {o : Oper} {v : Value} {a a' : Act} (h : YieldsC P ops C o v a) (he : execOp a'.eval o = execOp a.eval o)
    (hw : Region.wanted o (yielded ops a'.tmps) = Region.wanted o (yielded ops a.tmps)) : YieldsC P ops C o v a' := by
  unfold YieldsC
  rw [hw, he]
  exact h

theorem YieldsC.step {i : Nat} {o : Oper} {v : Value} {a : Act} {w : World} (hi : ops[i]? = some o) (hy : YieldsC P ops C o v a) (hw : C w)
    {K : Act → World → Prop} (h : ∀ w'', Grew w w'' → K (a.put o.dst v) w'') : wpOp P ops Q i K a w := by
  unfold wpOp
  simp only [hi]
  rcases hy with ⟨h1, h2⟩ | ⟨h1, rfl⟩
  · simp only [h1, if_true]
    refine .inl ?_
    unfold Oper.wp
    rcases h2 w hw with he | ⟨f, args, he, hc⟩
    · rw [he]; exact h w (Grew.refl _)
    · rw [he]
      simp only [Oper.upon]
      refine Calls.mono hc ?_
      rintro e w'' ⟨rfl, hg⟩
      exact h w'' hg
  · simp only [h1]
    exact h w (Grew.refl _)

/-- a panic is let by from the tail alone -/
def qAt (T : Nat → Bool) (Q : Exit → Act → World → Prop) (i : Nat) : Exit → Act → World → Prop := if T i = true then Q else noP Q
theorem qAt_imp {T : Nat → Bool} {i : Nat} : ∀ e a w, qAt T Q i e a w → Q e a w := fun e a w h => by
  unfold qAt at h
  split at h
  · exact h
  · exact noP_imp e a w h
/-- whatever order is picked from here on; each step but those of T keeps to C, and what follows it holds in all worlds behind by new blocks -/
def wpAnyC (P : Program) (md : Region.Mode) (ops : Array Oper) (C : World → Prop) (T : Nat → Bool) (Q : Exit → Act → World → Prop) : Nat → Array Bool → Act → World → Prop
  | 0, listed, a, w => Region.ready md ops listed = [] ∧ Q .normal a w
  | fuel + 1, listed, a, w =>
    (Region.ready md ops listed = [] → Q .normal a w) ∧
    ∀ i ∈ Region.ready md ops listed, wpOp P ops (qAt T Q i) i (fun a' w'' => (T i = true ∧ wpAnyC P md ops C T Q fuel (listed.setIfInBounds i true) a' w'') ∨
      (C w'' ∧ ∀ w3, Grew w'' w3 → wpAnyC P md ops C T Q fuel (listed.setIfInBounds i true) a' w3)) a w

theorem wpAny_of_cls {T : Nat → Bool} : ∀ (fuel : Nat) (listed : Array Bool) (a : Act) (w : World), wpAnyC P md ops C T Q fuel listed a w → wpAny P md ops Q fuel listed a w
  | 0, _, _, w, h => h
  | fuel + 1, _, _, w, h => ⟨h.1, fun i hi => wpOp_impQ qAt_imp (wpOp_mono (fun a' w' h' => wpAny_of_cls fuel _ a' w' (by
      rcases h' with h' | h'
      · exact h'.2
      · exact h'.2 w' (Grew.refl _))) (h.2 i hi))⟩

theorem wpAnyC_first {i : Nat} {oi : Oper} {v : Value} {T : Nat → Bool} (bs : List Nat) (hC : ∀ {w w'}, C w → Grew w w' → C w') (hi : ops[i]? = some oi) (hsel : ∀ (j : Nat) (o : Oper) cs b, ops[j]? = some o → o.op ≠ .select cs b)
    (hbs : ∀ j ∈ bs, ∀ oj, ops[j]? = some oj → ∃ e ∈ oj.after, Region.binds md e = true ∧ (e.on = i ∨ e.on ∈ bs)) :
    ∀ (fuel : Nat) (listed : Array Bool) (a : Act) (w : World), C w →
      (∀ k ∈ bs, listed.getD k false = false) →
      (∀ j oj, ops[j]? = some oj → j ≠ i → listed.getD j true = false → (∀ e ∈ oj.after, Region.binds md e = true → e.on ≠ i) → oi.apart ops oj = true) →
      (∀ j, j < ops.size → j ≠ i → listed.getD j true = false → j ∉ bs → T j = false) →
      i ∈ Region.ready md ops listed → YieldsC P ops C oi v a →
      (∀ w', Grew w w' → wpAnyC P md ops C T Q fuel (listed.setIfInBounds i true) (a.put oi.dst v) w') → ∀ w', Grew w w' → wpAnyC P md ops C T Q (fuel + 1) listed a w' := by
  intro fuel
  induction fuel with
  | zero =>
    intro listed a w hc _ _ _ hr hy H w' hw
    refine ⟨fun h => (by rw [h] at hr; cases hr), fun j hj => ?_⟩
    by_cases hji : j = i
    · subst hji; exact hy.step hi (hC hc hw) (fun w'' hg => .inr ⟨hC hc (hw.trans hg), fun w3 h3 => H w3 ((hw.trans hg).trans h3)⟩)
    · have := ready_mono hj hji
      rw [(H w' hw).1] at this
      cases this
  | succ fuel ih =>
    intro listed a w hc hun hfree hstore hr hy H w' hw
    refine ⟨fun h => (by rw [h] at hr; cases hr), fun j hj => ?_⟩
    by_cases hji : j = i
    · subst hji; exact hy.step hi (hC hc hw) (fun w'' hg => .inr ⟨hC hc (hw.trans hg), fun w3 h3 => H w3 ((hw.trans hg).trans h3)⟩)
    · have h1 := (H w' hw).2 j (ready_mono hj hji)
      obtain ⟨hjun, oj, hoj, hall⟩ := mem_ready.1 hj
      have hnot : ∀ e ∈ oj.after, Region.binds md e = true → e.on ≠ i := fun e he hb heq => by
        have h1 := hall e he hb
        have h0 := (mem_ready.1 hr).1
        rw [heq] at h1
        rcases Nat.lt_or_ge i listed.size with h' | h'
        · simp [h'] at h0 h1; rw [h0] at h1; cases h1
        · simp [Array.getElem?_eq_none h'] at h1
      have hjb : j ∉ bs := fun hjb => by
        obtain ⟨e, he, hb, h | h⟩ := hbs j hjb oj hoj
        · exact hnot e he hb h
        · have h1 := hall e he hb
          rw [hun _ h] at h1; cases h1
      have hjs : j < ops.size := by
        rcases Nat.lt_or_ge j ops.size with h | h
        · exact h
        · rw [Array.getElem?_eq_none h] at hoj; cases hoj
      have hap := hfree j oj hoj hji hjun hnot
      have hns := hstore j hjs hji hjun hjb
      obtain ⟨a1, a2, a3⟩ := Oper.apart_spec hap
      have hq : qAt T Q j = noP Q := by unfold qAt; rw [hns]; rfl
      rw [hq] at h1 ⊢
      have h2 := wpOp_past (T := fun b => Region.wanted oi (yielded ops b.tmps) = Region.wanted oi (yielded ops a.tmps) ∧ execOp b.eval oi = execOp a.eval oi) hoj hap (fun cs b => hsel j oj cs b hoj) noP_put
        (fun b u hb => ⟨by rw [wanted_put oi b oj.dst u a3]; exact hb.1, by rw [execOp_put oi (fun cs b => hsel i oi cs b hi) b oj.dst u a3]; exact hb.2⟩)
        (fun b d hb => hb) ⟨rfl, rfl⟩ h1
      have hback : ∀ k, k ≠ i → (listed.setIfInBounds j true).getD k true = false → listed.getD k true = false := fun k hki hun => by
        by_cases hjk : j = k
        · subst hjk; exact hjun
        · rw [getD_set_ne true hjk] at hun; exact hun
      refine wpOp_mono (fun a' w'' h3 => ?_) h2
      obtain ⟨h3, h4 | ⟨hc', h4⟩⟩ := h3
      · rw [hns] at h4; cases h4.1
      · refine .inr ⟨hc', ih (listed.setIfInBounds j true) a' w'' hc' (fun k hk => ?_) (fun k ok hk hki hun hno => hfree k ok hk hki (hback k hki hun) hno) (fun k hk hki hun hno => hstore k hk hki (hback k hki hun) hno)
          (ready_mono hr (Ne.symm hji)) (hy.same h3.2 h3.1) (fun w3 hw3 => ?_)⟩
        · rw [getD_set_ne false (fun h : j = k => hjb (by rw [h]; exact hk))]; exact hun k hk
        · rw [Array.setIfInBounds_comm _ _ hji]
          exact h4 w3 hw3

/-- what waits for i in this way or another has not been done; what is of T waits for i -/
def behindB (md : Region.Mode) (ops : Array Oper) (T : Nat → Bool) (listed : Array Bool) (i : Nat) (bs : List Nat) : Bool :=
  (bs.all fun k => !listed.getD k false && ((ops[k]?).map (fun o => o.after.any fun e => Region.binds md e && (e.on == i || bs.contains e.on))).getD true) &&
  (List.range ops.size).all fun j => j == i || listed.getD j true || bs.contains j || !T j
/-- may operation i be taken first? -/
def takeB (md : Region.Mode) (ops : Array Oper) (T : Nat → Bool) (listed : Array Bool) (i : Nat) : Bool :=
  Region.noSelect ops && Region.free md ops listed i && (Region.ready md ops listed).contains i && behindB md ops T listed i (waits md ops listed i ops.size [])

/-- it holds here and behind, by new blocks -/
def AllC (P : Program) (md : Region.Mode) (ops : Array Oper) (C : World → Prop) (T : Nat → Bool) (Q : Exit → Act → World → Prop) (fuel : Nat) (listed : Array Bool) (a : Act) (w : World) : Prop :=
  ∀ w', Grew w w' → wpAnyC P md ops C T Q fuel listed a w'
theorem AllC.up {T : Nat → Bool} {fuel : Nat} {listed : Array Bool} {a : Act} {w w1 : World} (h : AllC P md ops C T Q fuel listed a w) (hg : Grew w w1) : AllC P md ops C T Q fuel listed a w1 := fun w' hw => h w' (hg.trans hw)

theorem AllC.take {l : List Oper} {i : Nat} {oi : Oper} {v : Value} {T : Nat → Bool} {fuel : Nat} {listed : Array Bool} {a : Act} {w : World} (hC : ∀ {w w'}, C w → Grew w w' → C w') (hc : C w) (hi : l[i]? = some oi)
    (hb : takeB md l.toArray T listed i = true) (hy : YieldsC P l.toArray C oi v a)
    (h : AllC P md l.toArray C T Q fuel (listed.setIfInBounds i true) (a.put oi.dst v) w) : AllC P md l.toArray C T Q (fuel + 1) listed a w := by
  unfold takeB at hb
  rw [Bool.and_eq_true, Bool.and_eq_true, Bool.and_eq_true] at hb
  obtain ⟨⟨⟨hs, hf⟩, hr⟩, hg⟩ := hb
  have hi' : l.toArray[i]? = some oi := by simpa using hi
  generalize waits md l.toArray listed i l.toArray.size [] = bs at hg
  unfold behindB at hg
  rw [Bool.and_eq_true, List.all_eq_true, List.all_eq_true] at hg
  obtain ⟨g1, g2⟩ := hg
  refine wpAnyC_first bs hC hi' (Region.noSelect_spec hs) (fun j hj oj hoj => ?_) fuel listed a w hc (fun k hk => ?_) (Region.free_spec hi' hf) (fun j hjs hji hun hno => ?_) (by simpa using hr) hy h
  · have := g1 j hj
    rw [hoj] at this
    simp only [Option.map_some, Option.getD_some, Bool.and_eq_true, Array.any_eq_true, Bool.or_eq_true, beq_iff_eq, List.contains_iff_mem] at this
    obtain ⟨_, k, hk, hb, he⟩ := this
    exact ⟨_, Array.getElem_mem hk, hb, he⟩
  · have := g1 k hk
    simp only [Bool.and_eq_true, Bool.not_eq_true'] at this
    exact this.1
  · have := g2 j (List.mem_range.2 hjs)
    rw [hun] at this
    simp only [Bool.or_eq_true, beq_iff_eq, Bool.false_eq_true, or_false, List.contains_iff_mem, Bool.not_eq_true'] at this
    rcases this with (h | h) | h
    · exact absurd h hji
    · exact absurd h hno
    · exact h

/-! the head's operations, one after another in the order of the text: the checks on the order are asked at once -/
/-- the operations from k on may be taken one after another, each first -/
def takesB (md : Region.Mode) (ops : Array Oper) (T : Nat → Bool) : Nat → Nat → Array Bool → Bool
  | 0, _, _ => true
  | m + 1, k, listed => takeB md ops T listed k && takesB md ops T m (k + 1) (listed.setIfInBounds k true)
def listAll : Nat → Nat → Array Bool → Array Bool
  | 0, _, listed => listed
  | m + 1, k, listed => listAll m (k + 1) (listed.setIfInBounds k true)
/-- each of the operations yields a value in every world of C -/
def HeadC (P : Program) (ops : Array Oper) (C : World → Prop) (R : Act → Prop) : List Oper → Act → Prop
  | [], a => R a
  | o :: rest, a => ∃ v, YieldsC P ops C o v a ∧ HeadC P ops C R rest (a.put o.dst v)
theorem HeadC.nil {R : Act → Prop} {a : Act} (h : R a) : HeadC P ops C R [] a := h
theorem HeadC.val {R : Act → Prop} {a : Act} {o : Oper} {rest : List Oper} (hw : Region.wanted o (yielded ops a.tmps) = true)
    (h : ∃ v, (∀ w', C w' → (execOp a.eval o).run P w' = .ok (.value v) w') ∧ HeadC P ops C R rest (a.put o.dst v)) : HeadC P ops C R (o :: rest) a := by
  obtain ⟨v, hy, h⟩ := h
  exact ⟨v, .inl ⟨hw, fun w' hg => .inl (hy w' hg)⟩, h⟩
theorem HeadC.call {R : Act → Prop} {a : Act} {o : Oper} {rest : List Oper} (hw : Region.wanted o (yielded ops a.tmps) = true)
    (h : ∃ (f : FuncId) (args : Array Value), (∀ w', C w' → (execOp a.eval o).run P w' = .ok (.enter f args) w') ∧
      ∃ v, (∀ w', C w' → Calls P f args w' (fun e w'' => e = .returned v ∧ Grew w' w'')) ∧ HeadC P ops C R rest (a.put o.dst v)) : HeadC P ops C R (o :: rest) a := by
  obtain ⟨f, args, he, v, hy, h⟩ := h
  exact ⟨v, .inl ⟨hw, fun w' hg => .inr ⟨f, args, he w' hg, hy w' hg⟩⟩, h⟩
theorem HeadC.shut {R : Act → Prop} {a : Act} {o : Oper} {rest : List Oper} (hw : Region.wanted o (yielded ops a.tmps) = false)
    (h : HeadC P ops C R rest (a.put o.dst undef)) : HeadC P ops C R (o :: rest) a := ⟨undef, .inr ⟨hw, rfl⟩, h⟩

theorem AllC.heads {l : List Oper} {T : Nat → Bool} {w : World} (hC : ∀ {w w'}, C w → Grew w w' → C w') (hc : C w) {fuel : Nat} :
    ∀ (os : List Oper) (k : Nat) (listed : Array Bool) (a : Act), (∀ j, j < os.length → os[j]? = l[k + j]?) → takesB md l.toArray T os.length k listed = true →
      HeadC P l.toArray C (fun a' => AllC P md l.toArray C T Q fuel (listAll os.length k listed) a' w) os a → AllC P md l.toArray C T Q (fuel + os.length) listed a w
  | [], k, listed, a, _, _, h => h
  | o :: os, k, listed, a, ho, hb, h => by
    simp only [List.length_cons, takesB, Bool.and_eq_true] at hb
    obtain ⟨v, hy, hrest⟩ := h
    have hi : l[k]? = some o := by simpa using (ho 0 (by simp)).symm
    exact AllC.take hC hc hi hb.1 hy (AllC.heads hC hc os (k + 1) _ _ (fun j hj => by
      have := ho (j + 1) (by simp only [List.length_cons]; omega)
      simpa [Nat.add_assoc, Nat.add_comm 1 j] using this) hb.2 hrest)
/-- the operations from k to k + m - 1 are taken first, in this order -/
theorem AllC.head {l : List Oper} {T : Nat → Bool} {w : World} (k m : Nat) {fuel : Nat} {listed : Array Bool} {a : Act} (hC : ∀ {w w'}, C w → Grew w w' → C w') (hc : C w) (hm : ((l.drop k).take m).length = m)
    (hb : takesB md l.toArray T m k listed = true) (h : HeadC P l.toArray C (fun a' => AllC P md l.toArray C T Q fuel (listAll m k listed) a' w) ((l.drop k).take m) a) :
    AllC P md l.toArray C T Q (fuel + m) listed a w := by
  have h1 := AllC.heads (l := l) (md := md) (Q := Q) (T := T) (fuel := fuel) hC hc ((l.drop k).take m) k listed a (fun j hj => by
    have hj' : j < m := by rw [hm] at hj; exact hj
    simp [hj']) (by rw [hm]; exact hb) (by rw [hm]; exact h)
  rw [hm] at h1
  exact h1

theorem AllC.done {T : Nat → Bool} {fuel : Nat} {listed : Array Bool} {a : Act} {w : World} (hr : Region.ready md ops listed = []) (h : ∀ w', Grew w w' → Q .normal a w') : AllC P md ops C T Q fuel listed a w := by
  intro w' hw
  cases fuel with
  | zero => exact ⟨hr, h w' hw⟩
  | succ fuel => exact ⟨fun _ => h w' hw, by rw [hr]; simp⟩

/-- one operation, not of T, comes up next: by its proof C is kept, and the rest holds in all worlds behind -/
theorem AllC.one {l : List Oper} {T : Nat → Bool} {fuel : Nat} {listed : Array Bool} {a : Act} {w : World} {o : Oper} (i : Nat) (hr : Region.ready md l.toArray listed = [i]) (ho : l[i]? = some o)
    (h : ∀ w', Grew w w' → ∀ K' : Act → World → Prop, Shut (∀ a w1, C w1 → AllC P md l.toArray C T Q fuel (listed.setIfInBounds i true) a w1 → K' a w1) → if Region.wanted o (yielded l.toArray a.tmps) = true then Oper.wp P o a w' K' (qAt T Q i) else K' (a.put o.dst undef) w') :
    AllC P md l.toArray C T Q (fuel + 1) listed a w := by
  intro w' hw
  refine ⟨fun h0 => (by rw [hr] at h0; cases h0), fun j hj => ?_⟩
  rw [hr] at hj
  have hji : j = i := by simpa using hj
  subst hji
  exact wpOp_step (by simpa using ho) (fun K' hK => h w' hw K' (fun a w h1 h2 => hK a w (.inr ⟨h1, h2⟩)))
/-- several operations come up next -/
theorem AllC.both {l : List Oper} {T : Nat → Bool} {fuel : Nat} {listed : Array Bool} {a : Act} {w : World} (is : List Nat) (hr : Region.ready md l.toArray listed = is) (hne : is ≠ [])
    (h : ∀ w', Grew w w' → ∀ i ∈ is, ∃ o, l[i]? = some o ∧ ∀ K' : Act → World → Prop, Shut (∀ a w1, C w1 → AllC P md l.toArray C T Q fuel (listed.setIfInBounds i true) a w1 → K' a w1) → if Region.wanted o (yielded l.toArray a.tmps) = true then Oper.wp P o a w' K' (qAt T Q i) else K' (a.put o.dst undef) w') :
    AllC P md l.toArray C T Q (fuel + 1) listed a w := by
  intro w' hw
  refine ⟨fun h0 => absurd (hr ▸ h0) hne, fun j hj => ?_⟩
  rw [hr] at hj
  obtain ⟨o, ho, h⟩ := h w' hw j hj
  exact wpOp_step (by simpa using ho) (fun K' hK => h K' (fun a w h1 h2 => hK a w (.inr ⟨h1, h2⟩)))

/-- the rest comes in one forced order, all of it of T -/
def seqTB (md : Region.Mode) (ops : Array Oper) (T : Nat → Bool) : Nat → Nat → Array Bool → Bool
  | 0, _, listed => (Region.ready md ops listed).isEmpty
  | g + 1, k, listed => T k && decide (Region.ready md ops listed = [k]) && seqTB md ops T g (k + 1) (listed.setIfInBounds k true)
theorem wpAnyC_seq {T : Nat → Bool} : ∀ (l : List Oper) (k : Nat) (listed : Array Bool) (a : Act) (w : World), (∀ j, l[j]? = ops[k + j]?) →
    seqTB md ops T l.length k listed = true → wpList P ops Q l a w → wpAnyC P md ops C T Q l.length listed a w
  | [], _, _, _, _, _, hB, h => ⟨by simpa [seqTB] using hB, h⟩
  | o :: l, k, listed, a, w, hl, hB, h => by
    have h0 : ops[k]? = some o := by simpa using (hl 0).symm
    simp only [List.length_cons, seqTB, Bool.and_eq_true, decide_eq_true_eq] at hB
    refine ⟨fun h1 => (by rw [hB.1.2] at h1; cases h1), fun i hi => ?_⟩
    rw [hB.1.2] at hi
    have hik : i = k := by simpa using hi
    subst hik
    have hw : wpOp P ops Q i (wpList P ops Q l) a w := by unfold wpOp; simp only [h0]; exact h
    have hq : qAt T Q i = Q := by unfold qAt; rw [hB.1.1]; rfl
    rw [hq]
    exact wpOp_mono (fun a' w' h' => .inl ⟨hB.1.1, wpAnyC_seq l (i + 1) _ a' w' (fun j => by have := hl (j + 1); simpa [Nat.add_assoc, Nat.add_comm 1 j] using this) hB.2 h'⟩) hw
theorem AllC.tail {l : List Oper} {T : Nat → Bool} {fuel : Nat} {listed : Array Bool} {a : Act} {w : World} (k : Nat) (ht : (l.drop k).length = fuel) (hB : seqTB md l.toArray T fuel k listed = true)
    (h : ∀ w', Grew w w' → wpList P l.toArray Q (l.drop k) a w') : AllC P md l.toArray C T Q fuel listed a w := by
  intro w' hw
  subst ht
  exact wpAnyC_seq (l.drop k) k listed a w' (fun j => by simp) hB (h w' hw)

/-- the region; C: the class of worlds; from operation n on the operations are the tail -/
theorem wp_region_cls (C : World → Prop) (n : Nat) {id : Nat} {a : Act} {w : World} (hm : P.follows .mixedOrders = true)
    (h : AllC P .any ops C (fun i => decide (n ≤ i)) Q ops.size (Array.replicate ops.size false) a w.drew) : (Code.region id ops true).wp P Q a w :=
  wp_region_any hm (wpAny_of_cls _ _ _ _ (h _ (Grew.refl _)))
end

/-- .. with the class 'behind by new blocks' -/
theorem wp_region_g {P : Program} {ops : Array Oper} {Q : Exit → Act → World → Prop} (n : Nat) {id : Nat} {a : Act} {w : World} (hm : P.follows .mixedOrders = true)
    (h : AllC P .any ops (Grew w) (fun i => decide (n ≤ i)) Q ops.size (Array.replicate ops.size false) a w.drew) : (Code.region id ops true).wp P Q a w :=
  wp_region_cls (Grew w) n hm h

theorem cls_grew {S : Nat → Prop} {w0 w w' : World} (h : Ch S w0 w) (k : Grew w w') : Ch S w0 w' := h.next k

section
variable {P : Program} {f : FuncId} {args : Array Value} {w : World} {v : Value}
theorem grew_same (h : Calls P f args w fun e w' => e = .returned v ∧ w = w') : Calls P f args w fun e w' => e = .returned v ∧ Grew w w' := h.mono fun _ _ ⟨he, hw⟩ => ⟨he, grew_eq hw⟩
theorem grew_draws (h : Calls P f args w fun e w' => e = .returned v ∧ Drawn w w') : Calls P f args w fun e w' => e = .returned v ∧ Grew w w' := h.mono fun _ _ ⟨he, hw⟩ => ⟨he, grew_drawn hw⟩
end
theorem Row.up {w w' : World} {B : Nat} {A : Option Addr} {xs : List Value} (h : Row w B A xs) (hg : Grew w w') (hB : B ≤ w.heap.size) : Row w' B A xs := h.below hg hB
theorem cell_up {w w' : World} (hg : Grew w w') {p : Addr} {u : Value} (hc : w.cell? p = some u) : w'.cell? p = some u := (hg.cell (World.block_lt_of_cell? w p hc)).trans hc
end

end Go.Proofs.Ytpoiejgoongllaa
