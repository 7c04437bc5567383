/-
  A local ID in a block of its own; carried over new blocks, draws and calls.
-/
import Derived.Test.YtnjhipnfhapngaaHeldK
namespace Go.Proofs.Ytnjhipnfhapngaa
set_option linter.unusedVariables false
set_option linter.unusedSimpArgs false
set_option linter.unnecessarySimpa false
open Go.RowKit

/-- block g holds the ID (s, n) -/
structure Bx (w : World) (g : Nat) (s n : Int) : Prop where
  c0 : w.cell? ⟨g, 0, none⟩ = some (.int .u64 s)
  c1 : w.cell? ⟨g, 1, none⟩ = some (.int .i64 n)
  f0 : w.frozen? ⟨g, 0, none⟩ = false
  f1 : w.frozen? ⟨g, 1, none⟩ = false
  lt : g < w.heap.size
theorem Bx.below {W w1 : World} {N g : Nat} {s n : Int} (h : Bx W g s n) (hb : Below N W w1) (hg : g < N) : Bx w1 g s n :=
  ⟨(hb.cell (p := ⟨g, 0, none⟩) hg).trans h.c0, (hb.cell (p := ⟨g, 1, none⟩) hg).trans h.c1, (hb.frozen (p := ⟨g, 0, none⟩) hg).trans h.f0, (hb.frozen (p := ⟨g, 1, none⟩) hg).trans h.f1, Nat.lt_of_lt_of_le h.lt hb.size⟩
theorem Bx.of {W w1 : World} {g : Nat} {s n : Int} (h : Bx W g s n) (hb : Below W.heap.size W w1) : Bx w1 g s n := h.below hb h.lt
theorem Bx.al {W : World} {g : Nat} {s n : Int} (h : Bx W g s n) (o : Obj) : Bx (W.alloc o) g s n := h.of ((Below.refl _ _).alloc (Nat.le_refl _) o)
theorem Bx.dr {W : World} {g : Nat} {s n : Int} (h : Bx W g s n) : Bx W.drew g s n := h.of (Below.refl _ _).drew
theorem Bx.drN {W : World} {g : Nat} {s n : Int} (h : Bx W g s n) (k : Nat) : Bx (W.drewN k) g s n := h.of (below_drewN (Below.refl _ _) k)
theorem Bx.new (w : World) (s n : Int) : Bx (w.alloc (.cells #[.int .u64 s, .int .i64 n] 51)) w.heap.size s n :=
  ⟨by go_simp, by go_simp, by go_simp, by go_simp, by simp⟩
theorem Bx.new' {w : World} {g : Nat} (s n : Int) (hg : g = w.heap.size) : Bx (w.alloc (.cells #[.int .u64 s, .int .i64 n] 51)) g s n := by subst hg; exact Bx.new w s n
theorem Bx.facts {w : World} {g : Nat} {s n : Int} (h : Bx w g s n) : w.cell? ⟨g, 0, none⟩ = some (.int .u64 s) ∧ w.cell? ⟨g, 1, none⟩ = some (.int .i64 n) ∧ g < w.heap.size ∧ g < w.heap.size + 1 ∧ g < w.heap.size + 1 + 1 :=
  ⟨h.c0, h.c1, h.lt, Nat.lt_succ_of_lt h.lt, Nat.lt_succ_of_lt (Nat.lt_succ_of_lt h.lt)⟩
/-- the frame -/
structure Fr (w W : World) : Prop where
  b : Below w.heap.size w W
theorem Fr.refl (w : World) : Fr w w := ⟨Below.refl _ _⟩
theorem Fr.of {w W w1 : World} (h : Fr w W) (hb : Below W.heap.size W w1) : Fr w w1 := ⟨below_then h.b hb⟩
theorem Fr.al {w W : World} (h : Fr w W) (o : Obj) : Fr w (W.alloc o) := ⟨h.b.alloc h.b.size o⟩
theorem Fr.dr {w W : World} (h : Fr w W) : Fr w W.drew := ⟨h.b.drew⟩
theorem Fr.drN {w W : World} (h : Fr w W) (k : Nat) : Fr w (W.drewN k) := ⟨below_drewN h.b k⟩

end Go.Proofs.Ytnjhipnfhapngaa
