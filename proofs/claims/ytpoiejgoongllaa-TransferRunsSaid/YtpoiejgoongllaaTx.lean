/-
  What texts (byte strings in memory) need: clones, conversions, frames.
-/
import Derived.Test.YtpoiejgoongllaaSum
import Derived.Test.YtpoiejgoongllaaRegC
import Derived.Test.YtpoiejgoongllaaTape
import Derived.ArgAppend
import Derived.Laws.BytesArg
namespace Go.Proofs.Ytpoiejgoongllaa
/- Clone:
  slices.Clone of bytes; chunker.Split.
-/
section
set_option linter.unusedVariables false
set_option linter.unusedSimpArgs false
set_option linter.unnecessarySimpa false
open Go.RowKit
attribute [local go_sem ↓] Go.wp_at_zero Go.wp_at_succ

set_option maxHeartbeats 1000000 in
theorem clone_any (ad : Addr) (cap B : Nat) (zs : List Int) (w : World) (hr : Row w B (some ad) (zs.map (.int .u8))) (hB : B ≤ w.heap.size) (hne : 1 ≤ zs.length) (hm : zs.length ≤ 1048576) :
    Calls Try.prog 58 #[.slice (some ad) zs.length cap] w fun e w' => ∃ A' cap', e = .returned (.slice A' zs.length cap') ∧
      w'.ownsRow w.heap.size 5 1 (.slice A' zs.length cap') zs.length (zs.map (.int .u8)) ∧ Below w.heap.size w w' := by
  obtain ⟨i0, hi, hz0, hz1, hz2⟩ := info_parts (show (Try.prog.info? 5).map (fun i => (i.zero, i.size, i.bytes)) = some (some (.int .u8 0), 1, 1) from by kernel_rfl)
  have hq : ∀ W, Sem.run Try.prog (binOp .eql 38 (.slice (some ad) zs.length cap) (.slice none 0 0)) W = .ok (.bool false) W := fun W => by kernel_rfl
  go_enter Try.func58, Try.ntmps58
  have hcell : ∀ j u, (zs.map (Value.int .u8))[j]? = some u → (w.alloc (.cells #[] 5)).cell? (ad.add j) = some u := fun j u hj => by
    obtain ⟨hj', rfl⟩ := List.getElem?_eq_some_iff.1 hj
    obtain ⟨ad', he, hb, hc⟩ := (hr.below (grew_alloc w (.cells #[] 5)) hB).at_ (k := j) hj'
    obtain rfl : ad = ad' := by injection he
    exact hc
  have HQ := Lib.hid hq
  have HCe := Lib.hid hcell
  clear hcell
  go_wp2_with (at_builtin; refine wpList_append_grows (w.alloc (.cells #[] 5)) rfl (.tmp 5) (.tmp 6) 38 rfl 5 i0 (.int .u8 0) 1 1 Try.underlying38 hi hz0 hz1 hz2 rfl (by omega) (some ⟨w.heap.size, 0, none⟩) 0 0 [] rfl (fun h => by cases h) rfl (fun b _ j u hj => by simp at hj) ad zs.length cap (zs.map (.int .u8)) rfl (by simp) HCe.out (ones_u8 zs) (by omega) (by unfold maxLen; omega) (by omega) ?_; intro v' w' hown hgrow)
  obtain ⟨A1, c1, rfl, hcap⟩ := own_form hown
  have hown' := own_mono hown (grew_alloc w (.cells #[] 5)).size
  have hb : Below w.heap.size w w' := (grew_alloc w (.cells #[] 5)).grown hgrow (grew_alloc w (.cells #[] 5)).size (by simp)
  rw [List.nil_append, Nat.zero_add] at hown'
  clear hown hgrow hq
  go_wp2_with (fail)
  go_ret
  exact ⟨A1, c1, by simp, hown', hb⟩
end

/- Texts:
  Byte strings that a function laid; are two lists of byte strings equal; the reference's Cuts.
-/
section
set_option linter.unusedVariables false
set_option linter.unusedSimpArgs false
set_option linter.unnecessarySimpa false
open Go.RowKit
attribute [local go_sem ↓] Go.wp_at_zero Go.wp_at_succ

theorem conv_row' {w : World} {B : Nat} {A : Option Addr} {zs : List Int} (hr : Row w B A (zs.map (.int .u8))) (cap : Nat) : (convert 38 9 (.slice A zs.length cap)).run Try.prog w = .ok (.string (strOfNums zs)) w := by
  rw [run_convert_bytes_string w 38 9 5 A zs.length cap Try.underlying38 Try.underlying5 Try.underlying9]
  have main : ∀ ad : Addr, (∀ j v, (zs.map (Value.int .u8))[j]? = some v → w.cell? (ad.add j) = some v) → (Conv.bytesToString (.slice (some ad) zs.length cap)).run Try.prog w = .ok (.string (strOfNums zs)) w := fun ad hc => by
    have hl : (loadCells ad zs.length).run Try.prog w = .ok (zs.map (Value.int .u8)).toArray w := by
      have := run_loadCells_list (P := Try.prog) w ad (zs.map (Value.int .u8)) (fun j v hj => hc j v hj)
      simpa using this
    rw [run_bytesToString w _ zs.length cap zs hl, foldl_push_bytes]
    simp [strOfNums, ByteArray.empty, ByteArray.emptyWithCapacity]
    rfl
  rcases hr with h | ⟨ad, rfl, hb, hc⟩
  · obtain rfl : zs = [] := by simpa using h
    cases A with
    | none => simp [Conv.bytesToString]; rfl
    | some ad => exact main ad (fun j v hj => by simp at hj)
  · exact main ad (fun j v hj => (hc j (List.getElem?_eq_some_iff.1 hj).1).trans hj)

/-- p lies in a block of bytes from base on -/
def Tx (w : World) (base : Nat) (p : Part) : Prop := p.zs = [] ∨ ∃ ad cs fr, p.A = some ad ∧ base ≤ ad.block ∧ w.heap[ad.block]? = some (.cells cs 5 fr) ∧ ∀ j, j < (p.zs.map (Value.int .u8)).length → w.cell? (ad.add j) = (p.zs.map (Value.int .u8))[j]?
/-- no block of S holds bytes -/
def NoBytes (w : World) (S : Nat → Prop) : Prop := ∀ i cs fr, S i → w.heap[i]? ≠ some (.cells cs 5 fr)
section
variable {w w' : World} {base base' : Nat} {p : Part} {S : Nat → Prop}
theorem Tx.row (h : Tx w base p) : Row w w.heap.size p.A (p.zs.map (.int .u8)) := by
  rcases h with h | ⟨ad, cs, fr, e, _, hh, hc⟩
  · left; rw [h]; rfl
  · exact .inr ⟨ad, e, (Array.getElem?_eq_some_iff.1 hh).1, hc⟩
theorem Tx.ch (h : Tx w base p) (k : Ch S w w') (hS : NoBytes w S) : Tx w' base p := by
  rcases h with h | ⟨ad, cs, fr, e, hb, hh, hc⟩
  · exact .inl h
  · have hl := (Array.getElem?_eq_some_iff.1 hh).1
    have hn : ¬ S ad.block := fun hs => hS _ _ _ hs hh
    exact .inr ⟨ad, cs, fr, e, hb, (k.block _ hl hn).trans hh, fun j hj => (k.cellEq (by rw [add_block]; exact hl) (by rw [add_block]; exact hn)).trans (hc j hj)⟩
/-- .. what changes holds no bytes, or is not p's block -/
theorem Tx.chB (h : Tx w base p) (k : Ch S w w') (hS : ∀ i, S i → (∀ cs fr, w.heap[i]? ≠ some (.cells cs 5 fr)) ∨ (∀ ad, p.A = some ad → base ≤ ad.block → ad.block ≠ i)) : Tx w' base p := by
  rcases h with h | ⟨ad, cs, fr, e, hb, hh, hc⟩
  · exact .inl h
  · have hl := (Array.getElem?_eq_some_iff.1 hh).1
    have hn : ¬ S ad.block := fun hs => (hS _ hs).elim (fun h => h _ _ hh) (fun h => h ad e hb rfl)
    exact .inr ⟨ad, cs, fr, e, hb, (k.block _ hl hn).trans hh, fun j hj => (k.cellEq (by rw [add_block]; exact hl) (by rw [add_block]; exact hn)).trans (hc j hj)⟩
theorem Tx.of (h : Tx w base p) (k : Below w.heap.size w w') : Tx w' base p := h.ch (S := NoB) (Ch.of_below k) (fun _ _ _ h => h.elim)
theorem Tx.mono (h : Tx w base p) (hb : base' ≤ base) : Tx w base' p := by
  rcases h with h | ⟨ad, cs, fr, e, hb', r⟩
  · exact .inl h
  · exact .inr ⟨ad, cs, fr, e, Nat.le_trans hb hb', r⟩
theorem Tx.own {A : Option Addr} {zs : List Int} {cap n : Nat} (h : w.ownsRow base 5 1 (.slice A n cap) n (zs.map (.int .u8))) : Tx w base ⟨A, cap, zs⟩ := by
  have hl := h.1
  rw [List.length_map, Nat.mul_one] at hl
  subst hl
  rcases Nat.eq_zero_or_pos zs.length with h0 | h0
  · exact .inl (List.eq_nil_of_length_eq_zero h0)
  · rcases h.2 with ⟨_, h1⟩ | ⟨g, cap', cur, hv, hb, hh, _⟩
    · omega
    · injection hv with hA
      subst hA
      refine .inr ⟨⟨g, 0, none⟩, cur, (0, 0), rfl, hb, hh, fun j hj => ?_⟩
      rw [List.getElem?_eq_getElem hj]
      exact h.cells (g := g) rfl j _ (List.getElem?_eq_getElem hj)
theorem own_noBytes {e : TypeId} {size n : Nat} {v : Value} {xs : List Value} (h : w.ownsRow base e size v n xs) (hne : e ≠ 5) : NoBytes w (fun k => v.ownBlock = some k) := by
  intro i cs fr hi hh
  rcases h.2 with ⟨rfl, _⟩ | ⟨g, cap, cur, rfl, _, hh', _⟩
  · cases hi
  · have : g = i := by simpa [Value.ownBlock] using hi
    subst this
    rw [hh'] at hh
    injection hh with hh
    injection hh with _ ht
    exact hne ht
theorem blk_noBytes {g : Nat} {t : TypeId} {cs : Array Value} (h : Blk w g t cs) (hne : t ≠ 5) : NoBytes w (At g) := by
  intro i cs' fr hi hh
  subst hi
  unfold Blk at h
  rw [h] at hh
  injection hh with hh
  injection hh with _ ht
  exact hne ht
theorem noBytes_two {S T : Nat → Prop} (h : NoBytes w S) (k : NoBytes w T) : NoBytes w (fun i => S i ∨ T i) := fun i cs fr hi => hi.elim (h i cs fr) (k i cs fr)
end
/-- byte strings in blocks of bytes from base on -/
def Txs (w : World) (base : Nat) (ps : List Part) : Prop := ∀ p ∈ ps, Tx w base p
section
variable {w w' : World} {base base' : Nat} {ps qs : List Part} {S : Nat → Prop}
theorem Txs.nil : Txs w base [] := fun p hp => by simp at hp
theorem Txs.ch (h : Txs w base ps) (k : Ch S w w') (hS : NoBytes w S) : Txs w' base ps := fun p hp => (h p hp).ch k hS
theorem Txs.of (h : Txs w base ps) (k : Below w.heap.size w w') : Txs w' base ps := fun p hp => (h p hp).of k
theorem Txs.mono (h : Txs w base ps) (hb : base' ≤ base) : Txs w base' ps := fun p hp => (h p hp).mono hb
theorem Txs.lie (h : Txs w base ps) : Lie w w.heap.size ps := fun p hp => (h p hp).row
theorem Txs.app (h : Txs w base ps) (k : Txs w base qs) : Txs w base (ps ++ qs) := fun p hp => (List.mem_append.1 hp).elim (h p) (k p)
theorem Txs.snoc {p : Part} (h : Txs w base ps) (k : Tx w base p) : Txs w base (ps ++ [p]) := h.app (fun q hq => by rw [List.mem_singleton] at hq; subst hq; exact k)
end
theorem grew_nil {w w' : World} {n c : Nat} (h : w.grownBy w' (Value.slice none n c).ownBlock) : Grew w w' := ⟨h.os, h.tape, h.output, h.size, fun i hi => h.block i hi (by simp [Value.ownBlock])⟩
theorem own_own_ne {w : World} {b b' : Nat} {e e' : TypeId} {s s' n n' : Nat} {v v' : Value} {xs xs' : List Value} (h : w.ownsRow b e s v n xs) (h' : w.ownsRow b' e' s' v' n' xs') (hne : e ≠ e') : ∀ k, v.ownBlock = some k → v'.ownBlock ≠ some k := by
  intro k hk hk'
  rcases h.2 with ⟨rfl, _⟩ | ⟨g, cap, cur, rfl, _, hh, _⟩
  · cases hk
  · rcases h'.2 with ⟨rfl, _⟩ | ⟨g', cap', cur', rfl, _, hh', _⟩
    · cases hk'
    · have h1 : g = k := by simpa [Value.ownBlock] using hk
      have h2 : g' = k := by simpa [Value.ownBlock] using hk'
      subst h1; subst h2
      rw [hh] at hh'
      injection hh' with hh'
      injection hh' with _ ht
      exact hne ht
theorem row_take {w : World} {B : Nat} {A : Option Addr} {xs : List Value} (h : Row w B A xs) (m : Nat) : Row w B A (xs.take m) := by
  rcases h with rfl | ⟨ad, rfl, hb, hc⟩
  · left; simp
  · refine .inr ⟨ad, rfl, hb, fun j hj => ?_⟩
    simp at hj
    rw [hc j (by omega), List.getElem?_take, if_pos (by omega)]
theorem parts_eq {ps qs : List Part} (h : ps.map Part.zs = qs.map Part.zs) : ps.length = qs.length ∧ ∀ k (h1 : k < ps.length) (h2 : k < qs.length), qs[k].zs = ps[k].zs := by
  have hl : ps.length = qs.length := by simpa using congrArg List.length h
  refine ⟨hl, fun k h1 h2 => ?_⟩
  have := congrArg (fun l => l[k]?) h
  simp only [List.getElem?_map, List.getElem?_eq_getElem h1, List.getElem?_eq_getElem h2, Option.map_some, Option.some.injEq] at this
  exact this.symm

end

end Go.Proofs.Ytpoiejgoongllaa
