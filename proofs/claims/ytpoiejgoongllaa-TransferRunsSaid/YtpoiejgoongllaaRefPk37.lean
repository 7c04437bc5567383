/-
  Packets whose bytes are shared and never written.
-/
import Derived.Test.YtpoiejgoongllaaChan37
namespace Go.Proofs.Ytpoiejgoongllaa
section
set_option linter.unusedVariables false
set_option linter.unusedSimpArgs false
set_option linter.unnecessarySimpa false
open Go.RowKit

/-- bytes that lie below base, or in a block of bytes from base on -/
def BtIn (w : World) (base : Nat) (p : Part) : Prop := Row w base p.A (p.zs.map (.int .u8)) ∨ Tx w base p
section
variable {w w' : World} {base : Nat} {p : Part} {S : Nat → Prop}
theorem BtIn.row (h : BtIn w base p) (hb : base ≤ w.heap.size) : Row w w.heap.size p.A (p.zs.map (.int .u8)) := h.elim (fun h => h.more hb) Tx.row
theorem BtIn.ch (h : BtIn w base p) (k : Ch S w w') (hb : base ≤ w.heap.size) (hS : ∀ i, S i → base ≤ i) (hN : NoBytes w S) : BtIn w' base p :=
  h.elim (fun h => .inl (h.below (k.below hb hS) (Nat.le_refl _))) (fun h => .inr (h.ch k hN))
theorem BtIn.of (h : BtIn w base p) (k : Grew w w') (hb : base ≤ w.heap.size) : BtIn w' base p := h.ch (S := NoB) (Ch.of_below k) hb (fun _ h => h.elim) (fun _ _ _ h => h.elim)
end
/-- a slice of packets of its own, the bytes shared -/
structure PksR (w : World) (base : Nat) (A : Option Addr) (c : Nat) (l : List Pk) : Prop where
  row : w.ownsRow base 55 5 (.slice A l.length c) l.length (pksC l)
  bt : ∀ x ∈ l, BtIn w base x.p
theorem PksR.of {w w' : World} {base c : Nat} {A : Option Addr} {l : List Pk} (h : PksR w base A c l) (k : Grew w w') (hb : base ≤ w.heap.size) : PksR w' base A c l := ⟨own_below h.row k, fun x hx => (h.bt x hx).of k hb⟩
/-- what a reference's function returns -/
def RefRes (base : Nat) (zs : List PkZ) (w : World) (e : Ending) (w' : World) : Prop := ∃ A c ql, e = .returned (.slice A (List.length (α := Pk) ql) c) ∧ ql.map Pk.z = zs ∧ PksR w' base A c ql ∧ Below base w w'
end
end Go.Proofs.Ytpoiejgoongllaa
