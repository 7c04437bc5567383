/-
  What holds at the head of the loop of ChunkerStream.
-/
import Derived.Test.YtnbbbmmpkjiejaaStreamW
import Derived.Test.YtnbbbmmpkjiejaaRefWrite
namespace Go.Proofs.Ytnbbbmmpkjiejaa
set_option linter.unusedVariables false
set_option linter.unusedSimpArgs false
set_option linter.unnecessarySimpa false
open Go.RowKit

structure SI (w : World) (gc t s g base : Nat) (c : CutZ) (M : Nat) (H : Value) (T r q : List Int) (Ar : Option Addr) (wr : World) : Prop where
  tape : Tp wr w.heap.size w.heap.size M
  cut : CutAt wr gc c
  stm : Stm wr t s g base c H T r
  row : Row wr wr.heap.size Ar (q.map (.int .u8))
  off : ∀ ad, Ar = some ad → base ≤ ad.block ∧ ¬ StB t s g H ad.block ∧ ad.block < wr.heap.size
  byt : ∀ z ∈ q, 0 ≤ z ∧ z ≤ 255
  fr : Below w.heap.size w wr
  lo : w.heap.size < base ∧ base ≤ t ∧ base ≤ s ∧ base ≤ g ∧ gc < base ∧ w.heap.size ≠ gc

section
variable {w wr wr' : World} {gc t s g base M M' : Nat} {c : CutZ} {H : Value} {T r q : List Int} {Ar : Option Addr}
theorem Stm.ch {S : Nat → Prop} (h : Stm w t s g base c H T r) (k : Ch S w wr) (hS : ∀ i, S i → ¬ StB t s g H i) : Stm wr t s g base c H T r :=
  ⟨h.blk.ch k (fun h => hS _ h (.inl (.inl rfl))), own_ch h.own k (fun i hi h => hS i h (.inr hi)), h.scn.ch k (fun h => hS _ h (.inl (.inr (.inl rfl)))) (fun h => hS _ h (.inl (.inr (.inr rfl)))), h.suf, h.no⟩
theorem SI.stb (h : SI w gc t s g base c M H T r q Ar wr) : ∀ i, StB t s g H i → base ≤ i ∧ i < wr.heap.size := by
  obtain ⟨_, h1, h2, h3, _⟩ := h.lo
  intro i hi
  rcases hi with (rfl | rfl | rfl) | hi
  · exact ⟨h1, h.stm.blk.lt⟩
  · exact ⟨h2, h.stm.scn.blk.lt⟩
  · exact ⟨h3, h.stm.scn.rol.lt⟩
  · exact h.stm.own.lt i hi
theorem SI.next (h : SI w gc t s g base c M H T r q Ar wr) (hT : Tp wr' w.heap.size w.heap.size M') (k : Ch (At w.heap.size) wr wr') : SI w gc t s g base c M' H T r q Ar wr' := by
  obtain ⟨l0, _, _, _, l4, l5⟩ := h.lo
  refine ⟨hT, h.cut.ch k (fun e => l5 e.symm), h.stm.ch k (fun i hi hs => ?_), (h.row.chA k (Nat.le_refl _) (fun ad e hs => ?_)).more k.size, fun ad e => ⟨(h.off ad e).1, (h.off ad e).2.1, Nat.lt_of_lt_of_le (h.off ad e).2.2 k.size⟩, h.byt,
    Below.trans (B := w.heap.size) h.fr (k.below h.fr.size (fun i hi => by rw [hi]; exact Nat.le_refl _)), h.lo⟩
  · have := (h.stb i hs).1
    have e : i = w.heap.size := hi
    omega
  · have := (h.off ad e).1
    have e : ad.block = w.heap.size := hs
    omega
theorem SI.grew (h : SI w gc t s g base c M H T r q Ar wr) (k : Grew wr wr') : SI w gc t s g base c M H T r q Ar wr' :=
  ⟨h.tape.of k, h.cut.of k, h.stm.ch (S := NoB) (Ch.of_below k) (fun _ h => h.elim), (h.row.up k (Nat.le_refl _)).more k.size, fun ad e => ⟨(h.off ad e).1, (h.off ad e).2.1, Nat.lt_of_lt_of_le (h.off ad e).2.2 k.size⟩, h.byt, Grew.trans h.fr k, h.lo⟩
theorem SI.more (h : SI w gc t s g base c M H T r q Ar wr) (hm : M ≤ M') : SI w gc t s g base c M' H T r q Ar wr := ⟨h.tape.more hm, h.cut, h.stm, h.row, h.off, h.byt, h.fr, h.lo⟩
theorem SI.len (h : SI w gc t s g base c M H T r q Ar wr) (ok : c.Ok) : r.length ≤ 8192 := by
  have := nxtL_none_lt ok h.stm.no
  have := ok.mx
  omega
/-- what a change of the stream's blocks leaves of the rest -/
theorem SI.wrote (h : SI w gc t s g base c M H T r q Ar wr) {H' : Value} {T' r' q' : List Int} (hS : Stm wr' t s g base c H' T' r') (k : Ch (StB t s g H) wr wr') (hH : ∀ i, H'.ownBlock = some i → H.ownBlock = some i ∨ wr.heap.size ≤ i)
    {Ar' : Option Addr} (hr : Row wr wr.heap.size Ar' (q'.map (.int .u8))) (hoff : ∀ ad, Ar' = some ad → base ≤ ad.block ∧ ¬ StB t s g H ad.block ∧ ad.block < wr.heap.size) (hz : ∀ z ∈ q', 0 ≤ z ∧ z ≤ 255) : SI w gc t s g base c M H' T' r' q' Ar' wr' := by
  obtain ⟨l0, _, _, _, l4, l5⟩ := h.lo
  have hb := h.stb
  have k1 : ∀ i, StB t s g H i → w.heap.size ≤ i := fun i hi => by have := (hb i hi).1; omega
  refine ⟨h.tape.ch k (fun hi => by have := (hb _ hi).1; omega) k1, h.cut.ch k (fun hi => by have := (hb _ hi).1; omega), hS, (hr.chA k (Nat.le_refl _) (fun ad e => (hoff ad e).2.1)).more k.size, fun ad e => ?_, hz, Below.trans (B := w.heap.size) h.fr (k.below h.fr.size k1), h.lo⟩
  obtain ⟨o1, o2, o3⟩ := hoff ad e
  refine ⟨o1, ?_, Nat.lt_of_lt_of_le o3 k.size⟩
  rintro (hi | hi)
  · exact o2 (.inl hi)
  · rcases hH _ hi with h1 | h1
    · exact o2 (.inr h1)
    · omega
end
theorem tape_noBytes {w : World} {t B M : Nat} (h : Tp w t B M) : NoBytes w (At t) := by
  obtain ⟨_, _, _, _, hB, _⟩ := h.ex
  exact blk_noBytes hB (by decide)
theorem ones_part (qs : List Part) : ∀ u ∈ qs.map Part.v, u.oneCell' = true := by
  intro u hu
  obtain ⟨p, _, rfl⟩ := List.mem_map.1 hu
  rfl
/-- the row v lies not in A's block -/
def Sep (v : Value) (A : Option Addr) : Prop := ∀ ad, A = some ad → v.ownBlock ≠ some ad.block
theorem Sep.none {v : Value} : Sep v none := fun ad e => by cases e
theorem Sep.grown {v v' : Value} {A : Option Addr} {N : Nat} (h : Sep v A) (hw : v'.ownBlock = v.ownBlock ∨ v'.ownBlock = some N) (hl : ∀ ad, A = some ad → ad.block < N) : Sep v' A := fun ad e he => by
  rcases hw with h1 | h1
  · rw [h1] at he; exact h ad e he
  · rw [h1] at he
    injection he with he
    have := hl ad e
    omega
/-- another row of the caller's grows -/
theorem SI.wide {w wr wr' : World} {gc t s g base M : Nat} {c : CutZ} {H : Value} {T r q : List Int} {Ar : Option Addr} (h : SI w gc t s g base c M H T r q Ar wr) {e : TypeId} {size n : Nat} {v : Value} {xs : List Value} (ho : wr.ownsRow base e size v n xs) (hg : wr.grownBy wr' v.ownBlock)
    (hne : ∀ ad, Ar = some ad → v.ownBlock ≠ some ad.block) (h1 : e ≠ 73) (h2 : e ≠ 71) (h3 : e ≠ 80) (h4 : e ≠ 5) : SI w gc t s g base c M H T r q Ar wr' := by
  have k := Ch.of_own hg
  have hb := own_lt ho
  obtain ⟨l0, _, _, _, l4, l5⟩ := h.lo
  exact ⟨h.tape.ch k (fun hi => by have := hb _ hi; omega) (fun i hi => by have := hb _ hi; omega), h.cut.ch k (fun hi => by have := hb _ hi; omega), h.stm.ch k (fun i hi => h.stm.ne_own ho h1 h2 h3 h4 i hi),
    (h.row.chA k (Nat.le_refl _) (fun ad e => hne ad e)).more k.size, fun ad e => ⟨(h.off ad e).1, (h.off ad e).2.1, Nat.lt_of_lt_of_le (h.off ad e).2.2 k.size⟩, h.byt,
    Below.trans (B := w.heap.size) h.fr (k.below h.fr.size (fun i hi => by have := hb _ hi; omega)), h.lo⟩
/-- what Pieces has got of the chunks: those of all bytes up to now -/
structure PI (c : CutZ) (H : Value) (base : Nat) (al r : List Int) (ls : List Nat) (ps : List Part) (wr : World) : Prop where
  full : FullZ c al ls r
  cuts : ps.map Part.zs = cutsL ls al
  txs : Txs wr base ps
  far : ∀ p ∈ ps, ∀ ad, p.A = some ad → ad.block < wr.heap.size ∧ H.ownBlock ≠ some ad.block
theorem PI.zero {c : CutZ} {H : Value} {base : Nat} {wr : World} : PI c H base [] [] [] [] wr := ⟨.stop nxtL_nil, rfl, Txs.nil, fun p hp => by simp at hp⟩
section
variable {c : CutZ} {H : Value} {base : Nat} {al r : List Int} {ls : List Nat} {ps : List Part} {w wr wr' : World}
theorem PI.ch {S : Nat → Prop} (h : PI c H base al r ls ps wr) (k : Ch S wr wr') (hS : NoBytes wr S) : PI c H base al r ls ps wr' :=
  ⟨h.full, h.cuts, h.txs.ch k hS, fun p hp ad e => ⟨Nat.lt_of_lt_of_le (h.far p hp ad e).1 k.size, (h.far p hp ad e).2⟩⟩
theorem PI.of (h : PI c H base al r ls ps wr) (k : Below wr.heap.size wr wr') : PI c H base al r ls ps wr' := h.ch (S := NoB) (Ch.of_below k) (fun _ _ _ h => h.elim)
theorem PI.wrote (h : PI c H base al r ls ps wr) (ok : c.Ok) {t s g : Nat} {T : List Int} (hS0 : Stm wr t s g base c H T r) {zs r2 : List Int} {ls2 : List Nat} {qs : List Part} {H' : Value} (k : Ch (StB t s g H) wr wr') (hT : Txs wr' base qs) (hF : FullZ c (r ++ zs) ls2 r2) (hq : qs.map Part.zs = cutsL ls2 (r ++ zs))
    (hfar : ∀ p ∈ qs, ∀ ad, p.A = some ad → (H.ownBlock = some ad.block ∨ wr.heap.size ≤ ad.block) ∧ ad.block < wr'.heap.size ∧ H'.ownBlock ≠ some ad.block) (hH : ∀ i, H'.ownBlock = some i → H.ownBlock = some i ∨ wr.heap.size ≤ i) :
    PI c H' base (al ++ zs) r2 (ls ++ ls2) (ps ++ qs) wr' := by
  refine ⟨h.full.trans hF, by rw [h.full.cuts ok, List.map_append, h.cuts, hq], Txs.app (fun p hp => (h.txs p hp).chB k (fun i hi => ?_)) hT, fun p hp ad e => ?_⟩
  · rcases hi with hi | hi
    · exact .inl (hS0.notBytes hi)
    · exact .inr (fun ad e _ h1 => (h.far p hp ad e).2 (by rw [h1]; exact hi))
  · rcases List.mem_append.1 hp with hp | hp
    · obtain ⟨h1, h2⟩ := h.far p hp ad e
      refine ⟨Nat.lt_of_lt_of_le h1 k.size, fun he => ?_⟩
      rcases hH _ he with h3 | h3
      · exact h2 h3
      · omega
    · exact (hfar p hp ad e).2
/-- the last chunk is got, if there is one -/
theorem PI.closed (h : PI c H base al r ls ps wr) {t s g : Nat} {T : List Int} (hS0 : Stm wr t s g base c H T r) (k : Ch (StB t s g H) wr wr') : Txs wr' base ps := fun p hp => (h.txs p hp).chB k (fun i hi => by
  rcases hi with hi | hi
  · exact .inl (hS0.notBytes hi)
  · exact .inr (fun ad e _ h1 => (h.far p hp ad e).2 (by rw [h1]; exact hi)))
end
theorem same_snoc (A A2 : Option Addr) (cap cap2 : Nat) {base : Nat} {ps qs : List Part} {p : Part} {w : World} (hr : w.ownsRow base 30 1 (.slice A (ps.length + 1) cap) (ps.length + 1) (ps.map Part.v ++ [p.v])) (hs : Row w w.heap.size A2 (qs.map Part.v)) (hp : Lie w w.heap.size (ps ++ [p])) (hq : Lie w w.heap.size qs) (hm : ps.length + 1 ≤ 9223372036854775807) (he : (ps ++ [p]).map Part.zs = qs.map Part.zs) :
    Calls Try.prog 24 #[.slice A (ps.length + 1) cap, .slice A2 qs.length cap2] w fun e w' => e = .returned (.bool true) ∧ Below w.heap.size w w' := by
  have h := sameTexts_yes A A2 cap cap2 w.heap.size (ps ++ [p]) qs w (by rw [List.map_append]; exact own_row hr) hs hp hq (Nat.le_refl _) (by rw [List.length_append]; exact hm) he
  rw [List.length_append] at h
  exact h
theorem full_mem {c : CutZ} (ok : c.Ok) {l r : List Int} {ls : List Nat} (h : FullZ c l ls r) {P : Int → Prop} (hz : ∀ z ∈ l, P z) : ∀ z ∈ r, P z := fun z hr => hz z (by rw [(h.sum ok).2] at hr; exact List.mem_of_mem_drop hr)

end Go.Proofs.Ytnbbbmmpkjiejaa
