/-
  What holds at the head of the loop of ChunkerStream.
-/
import Derived.Test.YtnbbbmmpkjiejaaStreamW
import Derived.Test.YtnbbbmmpkjiejaaRefWrite
namespace Go.Proofs.Ytnbbbmmpkjiejaa
set_option linter.unusedVariables false
set_option linter.unusedSimpArgs false
set_option linter.unnecessarySimpa false
open Go.RowKit

structure SI (w : World) (gc t s g base : Nat) (c : CutZ) (M : Nat) (H : Value) (T r : List Int) (Ar : Option Addr) (wr : World) : Prop where
  tape : Tp wr w.heap.size w.heap.size M
  cut : CutAt wr gc c
  stm : Stm wr t s g base c H T r
  row : Row wr wr.heap.size Ar (r.map (.int .u8))
  off : ∀ ad, Ar = some ad → base ≤ ad.block ∧ ¬ StB t s g H ad.block ∧ ad.block < wr.heap.size
  byt : ∀ z ∈ r, 0 ≤ z ∧ z ≤ 255
  fr : Below w.heap.size w wr
  lo : w.heap.size < base ∧ base ≤ t ∧ base ≤ s ∧ base ≤ g ∧ gc < base ∧ w.heap.size ≠ gc

section
variable {w wr wr' : World} {gc t s g base M M' : Nat} {c : CutZ} {H : Value} {T r : List Int} {Ar : Option Addr}
theorem Stm.ch {S : Nat → Prop} (h : Stm w t s g base c H T r) (k : Ch S w wr) (hS : ∀ i, S i → ¬ StB t s g H i) : Stm wr t s g base c H T r :=
  ⟨h.blk.ch k (fun h => hS _ h (.inl (.inl rfl))), own_ch h.own k (fun i hi h => hS i h (.inr hi)), h.scn.ch k (fun h => hS _ h (.inl (.inr (.inl rfl)))) (fun h => hS _ h (.inl (.inr (.inr rfl)))), h.suf, h.no⟩
theorem SI.stb (h : SI w gc t s g base c M H T r Ar wr) : ∀ i, StB t s g H i → base ≤ i ∧ i < wr.heap.size := by
  obtain ⟨_, h1, h2, h3, _⟩ := h.lo
  intro i hi
  rcases hi with (rfl | rfl | rfl) | hi
  · exact ⟨h1, h.stm.blk.lt⟩
  · exact ⟨h2, h.stm.scn.blk.lt⟩
  · exact ⟨h3, h.stm.scn.rol.lt⟩
  · exact h.stm.own.lt i hi
theorem SI.next (h : SI w gc t s g base c M H T r Ar wr) (hT : Tp wr' w.heap.size w.heap.size M') (k : Ch (At w.heap.size) wr wr') : SI w gc t s g base c M' H T r Ar wr' := by
  obtain ⟨l0, _, _, _, l4, l5⟩ := h.lo
  refine ⟨hT, h.cut.ch k (fun e => l5 e.symm), h.stm.ch k (fun i hi hs => ?_), (h.row.chA k (Nat.le_refl _) (fun ad e hs => ?_)).more k.size, fun ad e => ⟨(h.off ad e).1, (h.off ad e).2.1, Nat.lt_of_lt_of_le (h.off ad e).2.2 k.size⟩, h.byt,
    Below.trans (B := w.heap.size) h.fr (k.below h.fr.size (fun i hi => by rw [hi]; exact Nat.le_refl _)), h.lo⟩
  · have := (h.stb i hs).1
    have e : i = w.heap.size := hi
    omega
  · have := (h.off ad e).1
    have e : ad.block = w.heap.size := hs
    omega
theorem SI.grew (h : SI w gc t s g base c M H T r Ar wr) (k : Grew wr wr') : SI w gc t s g base c M H T r Ar wr' :=
  ⟨h.tape.of k, h.cut.of k, h.stm.ch (S := NoB) (Ch.of_below k) (fun _ h => h.elim), (h.row.up k (Nat.le_refl _)).more k.size, fun ad e => ⟨(h.off ad e).1, (h.off ad e).2.1, Nat.lt_of_lt_of_le (h.off ad e).2.2 k.size⟩, h.byt, Grew.trans h.fr k, h.lo⟩
theorem SI.more (h : SI w gc t s g base c M H T r Ar wr) (hm : M ≤ M') : SI w gc t s g base c M' H T r Ar wr := ⟨h.tape.more hm, h.cut, h.stm, h.row, h.off, h.byt, h.fr, h.lo⟩
theorem SI.len (h : SI w gc t s g base c M H T r Ar wr) (ok : c.Ok) : r.length ≤ 8192 := by
  have := nxtL_none_lt ok h.stm.no
  have := ok.mx
  omega
/-- what a change of the stream's blocks leaves of the rest -/
theorem SI.wrote (h : SI w gc t s g base c M H T r Ar wr) {H' : Value} {T' r' : List Int} (hS : Stm wr' t s g base c H' T' r') (k : Ch (StB t s g H) wr wr') (hH : ∀ i, H'.ownBlock = some i → H.ownBlock = some i ∨ wr.heap.size ≤ i)
    {Ar' : Option Addr} (hr : Row wr wr.heap.size Ar' (r'.map (.int .u8))) (hoff : ∀ ad, Ar' = some ad → base ≤ ad.block ∧ ¬ StB t s g H ad.block ∧ ad.block < wr.heap.size) (hz : ∀ z ∈ r', 0 ≤ z ∧ z ≤ 255) : SI w gc t s g base c M H' T' r' Ar' wr' := by
  obtain ⟨l0, _, _, _, l4, l5⟩ := h.lo
  have hb := h.stb
  have k1 : ∀ i, StB t s g H i → w.heap.size ≤ i := fun i hi => by have := (hb i hi).1; omega
  refine ⟨h.tape.ch k (fun hi => by have := (hb _ hi).1; omega) k1, h.cut.ch k (fun hi => by have := (hb _ hi).1; omega), hS, (hr.chA k (Nat.le_refl _) (fun ad e => (hoff ad e).2.1)).more k.size, fun ad e => ?_, hz, Below.trans (B := w.heap.size) h.fr (k.below h.fr.size k1), h.lo⟩
  obtain ⟨o1, o2, o3⟩ := hoff ad e
  refine ⟨o1, ?_, Nat.lt_of_lt_of_le o3 k.size⟩
  rintro (hi | hi)
  · exact o2 (.inl hi)
  · rcases hH _ hi with h1 | h1
    · exact o2 (.inr h1)
    · omega
end
theorem full_mem {c : CutZ} (ok : c.Ok) {l r : List Int} {ls : List Nat} (h : FullZ c l ls r) {P : Int → Prop} (hz : ∀ z ∈ l, P z) : ∀ z ∈ r, P z := fun z hr => hz z (by rw [(h.sum ok).2] at hr; exact List.mem_of_mem_drop hr)

end Go.Proofs.Ytnbbbmmpkjiejaa
