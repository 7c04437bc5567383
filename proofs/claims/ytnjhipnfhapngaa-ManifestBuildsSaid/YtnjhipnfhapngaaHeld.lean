/-
  Small lemmas on worlds: what a region's held facts come to behind a call that lays new blocks alone.
-/
import Derived.Test.YtnjhipnfhapngaaIds
import Derived.Deep.RegionHeld3
import Derived.Deep.DrawnRows
import Derived.Deep.QuietTactic
import Derived.BigQuiet
namespace Go.Proofs.Ytnjhipnfhapngaa
set_option linter.unusedVariables false
set_option linter.unusedSimpArgs false
set_option linter.unnecessarySimpa false
open Go.RowKit Go.Lib

/-- w' is w behind some draws -/
def Drawn (w w' : World) : Prop := ∃ n, w' = w.drewN n
theorem Drawn.refl (w : World) : Drawn w w := ⟨0, rfl⟩
theorem Drawn.drewN {w w' : World} (h : Drawn w w') (n : Nat) : Drawn w (w'.drewN n) := by
  obtain ⟨m, rfl⟩ := h
  exact ⟨m + n, by rw [World.drewN_drewN]⟩
theorem Drawn.drew {w w' : World} (h : Drawn w w') : Drawn w w'.drew := h.drewN 1
theorem Drawn.trans {a b c : World} (h : Drawn a b) (k : Drawn b c) : Drawn a c := by
  obtain ⟨m, rfl⟩ := k
  exact h.drewN m
theorem Drawn.cell {w w' : World} (h : Drawn w w') (p : Addr) : w'.cell? p = w.cell? p := by
  obtain ⟨m, rfl⟩ := h
  rfl
theorem below_drewN {B : Nat} {a w : World} (h : Below B a w) (n : Nat) : Below B a (w.drewN n) := ⟨h.os, h.tape, h.output, h.size, h.block⟩
theorem Drawn.below {w w' : World} (h : Drawn w w') (B : Nat) : Below B w w' := by
  obtain ⟨m, rfl⟩ := h
  exact below_drewN (Below.refl _ _) m
theorem quiet_same {P : Program} {f : FuncId} {args : Array Value} {w : World} {n : Nat} {v : Value} (h : Calls P f args (w.drewN n) fun e w' => e = .returned v ∧ w.drewN n = w') :
    Calls P f args (w.drewN n) fun e w'' => e = .returned v ∧ ∃ m, w'' = w.drewN m :=
  h.mono fun _ _ ⟨he, hm⟩ => ⟨he, n, hm.symm⟩
theorem quiet_drawn {P : Program} {f : FuncId} {args : Array Value} {w : World} {n : Nat} {v : Value} (h : Calls P f args (w.drewN n) fun e w' => e = .returned v ∧ Drawn (w.drewN n) w') :
    Calls P f args (w.drewN n) fun e w'' => e = .returned v ∧ ∃ m, w'' = w.drewN m :=
  h.mono fun _ _ ⟨he, m, hm⟩ => ⟨he, n + m, by rw [hm, World.drewN_drewN]⟩

/-- below N all cells and marks read as before: two rules for the walk -/
theorem bcell {N : Nat} {W w1 : World} (hb : Below N W w1) : (∀ b o, b < N → w1.cell? ⟨b, o, none⟩ = W.cell? ⟨b, o, none⟩) ∧ (∀ b o, b < N → w1.frozen? ⟨b, o, none⟩ = W.frozen? ⟨b, o, none⟩) :=
  ⟨fun b o h => hb.cell (p := ⟨b, o, none⟩) h, fun b o h => hb.frozen (p := ⟨b, o, none⟩) h⟩

theorem below_then {W w1 w2 : World} (h : Below W.heap.size W w1) (k : Below w1.heap.size w1 w2) : Below W.heap.size W w2 := h.trans (k.mono h.size)
/-- .. with the size of the first world in the walk's own form -/
theorem bcell' {N : Nat} {W w1 : World} (hb : Below W.heap.size W w1) (hN : W.heap.size = N) :
    (∀ b o, b < N → w1.cell? ⟨b, o, none⟩ = W.cell? ⟨b, o, none⟩) ∧ (∀ b o, b < N → w1.frozen? ⟨b, o, none⟩ = W.frozen? ⟨b, o, none⟩) ∧ N ≤ w1.heap.size := by
  subst hN
  exact ⟨(bcell hb).1, (bcell hb).2, hb.size⟩

/-- the frame of a region: the world is the old one below B, and has at least N blocks -/
theorem held0 {w W w1 : World} {B N : Nat} (hb : Below W.heap.size W w1) (h : Below B w W ∧ N ≤ W.heap.size) (hB : B ≤ N) : Below B w w1 ∧ N ≤ w1.heap.size :=
  ⟨h.1.trans (hb.mono (by omega)), Nat.le_trans h.2 hb.size⟩
theorem held2 {w W w1 : World} {B N : Nat} {p q : Addr} {a b : Value} (hb : Below W.heap.size W w1)
    (h : W.cell? p = some a ∧ W.cell? q = some b ∧ Below B w W ∧ N ≤ W.heap.size) (hB : B ≤ N) (hp : p.block < N) (hq : q.block < N) :
    w1.cell? p = some a ∧ w1.cell? q = some b ∧ Below B w w1 ∧ N ≤ w1.heap.size :=
  ⟨(hb.cell (by omega)).trans h.1, (hb.cell (by omega)).trans h.2.1, held0 hb h.2.2 hB⟩
theorem held4 {w W w1 : World} {B N : Nat} {p q p' q' : Addr} {a b a' b' : Value} (hb : Below W.heap.size W w1)
    (h : W.cell? p = some a ∧ W.cell? q = some b ∧ W.cell? p' = some a' ∧ W.cell? q' = some b' ∧ Below B w W ∧ N ≤ W.heap.size) (hB : B ≤ N) (hp : p.block < N) (hq : q.block < N) (hp' : p'.block < N) (hq' : q'.block < N) :
    w1.cell? p = some a ∧ w1.cell? q = some b ∧ w1.cell? p' = some a' ∧ w1.cell? q' = some b' ∧ Below B w w1 ∧ N ≤ w1.heap.size :=
  ⟨(hb.cell (by omega)).trans h.1, (hb.cell (by omega)).trans h.2.1, held2 hb h.2.2 hB hp' hq'⟩

theorem valid_yes (s n : Int) (h : vldB s n = true) (w : World) :
    Calls Try.prog 66 #[.agg #[.int .u64 s, .int .i64 n]] w fun e w' => e = .returned (.bool true) ∧ Below w.heap.size w w' := by
  rw [← h]; exact valid_any s n w
theorem valid_no (s n : Int) (h : vldB s n = false) (w : World) :
    Calls Try.prog 66 #[.agg #[.int .u64 s, .int .i64 n]] w fun e w' => e = .returned (.bool false) ∧ Below w.heap.size w w' := by
  rw [← h]; exact valid_any s n w
theorem refValid_yes (s n : Int) (h : vldB s n = true) (w : World) :
    Calls Try.prog 65 #[.agg #[.int .u64 s, .int .i64 n]] w fun e w' => e = .returned (.bool true) ∧ Below w.heap.size w w' := by
  rw [← h]; exact refValid_any s n w
theorem refValid_no (s n : Int) (h : vldB s n = false) (w : World) :
    Calls Try.prog 65 #[.agg #[.int .u64 s, .int .i64 n]] w fun e w' => e = .returned (.bool false) ∧ Below w.heap.size w w' := by
  rw [← h]; exact refValid_any s n w
end Go.Proofs.Ytnjhipnfhapngaa
