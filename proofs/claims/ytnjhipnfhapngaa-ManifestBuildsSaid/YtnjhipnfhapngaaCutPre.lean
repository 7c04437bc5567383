/-
  What the laws of chapter 24 begin with: parameters in a block, rows of boundaries.
-/
import Derived.Test.YtnjhipnfhapngaaMake24
import Derived.Test.YtnjhipnfhapngaaCutMore
namespace Go.Proofs.Ytnjhipnfhapngaa
set_option linter.unusedVariables false
set_option linter.unusedSimpArgs false
set_option linter.unnecessarySimpa false
open Go.RowKit
attribute [local go_sem ↓] Go.wp_at_zero Go.wp_at_succ

/-- block g holds the parameters -/
def CutAt (w : World) (g : Nat) (c : CutZ) : Prop := Blk w g 83 #[.int .i64 c.mn, .int .i64 c.mx, .int .i64 c.wn, .int .u64 c.mask]
theorem CutAt.new (w : World) (c : CutZ) : CutAt (w.alloc (.cells #[.int .i64 c.mn, .int .i64 c.mx, .int .i64 c.wn, .int .u64 c.mask] 83)) w.heap.size c := Blk.new w _ _
theorem CutAt.lt {w : World} {g : Nat} {c : CutZ} (h : CutAt w g c) : g < w.heap.size := Blk.lt h
theorem CutAt.of {w w' : World} {g : Nat} {c : CutZ} (h : CutAt w g c) (k : Below w.heap.size w w') : CutAt w' g c := Blk.of h k
theorem CutAt.ch {S : Nat → Prop} {w w' : World} {g : Nat} {c : CutZ} (h : CutAt w g c) (k : Ch S w w') (hn : ¬ S g) : CutAt w' g c := Blk.ch h k hn
theorem CutAt.cells {w : World} {g : Nat} {c : CutZ} (h : CutAt w g c) : w.cell? ⟨g, 0, none⟩ = some (.int .i64 c.mn) ∧ w.cell? ⟨g, 1, none⟩ = some (.int .i64 c.mx) ∧ w.cell? ⟨g, 2, none⟩ = some (.int .i64 c.wn) ∧ w.cell? ⟨g, 3, none⟩ = some (.int .u64 c.mask) ∧ g < w.heap.size :=
  ⟨(Blk.cell h 0).trans rfl, (Blk.cell h 1).trans rfl, (Blk.cell h 2).trans rfl, (Blk.cell h 3).trans rfl, Blk.lt h⟩
theorem natV_get (l : List Nat) (k : Nat) (h : k < l.length) (h' : k < (natV l).length) : (natV l)[k] = .int .i64 (l[k] : Int) := by simp [natV]
/-- element k of a row of boundaries -/
theorem nat_at {w : World} {B : Nat} {A : Option Addr} {l : List Nat} (hr : Row w B A (natV l)) {k : Nat} (h : k < l.length) :
    ∃ ad : Addr, A = some ad ∧ ad.block < B ∧ w.cell? (ad.add k) = some (.int .i64 (l[k] : Int)) := by
  obtain ⟨ad, rfl, hb, hc⟩ := hr.at_ (k := k) (by rw [natV_length]; exact h)
  rw [natV_get l k h] at hc
  exact ⟨ad, rfl, hb, hc⟩
theorem ends_lt {c : CutZ} (ok : c.Ok) {l : List Int} {k : Nat} (h : k < (endsZ c l).length) : 1 ≤ (endsZ c l)[k] ∧ (endsZ c l)[k] ≤ l.length := endsZ_bd ok l _ (List.getElem_mem h)
theorem lensZ_len {c : CutZ} (ok : c.Ok) (l : List Int) : (lensZ c l).length ≤ l.length := by
  have h1 := lensZ_sum ok l
  have h2 := lensZ_pos ok l
  rw [← h1]
  generalize lensZ c l = ls at *
  clear h1
  induction ls with
  | nil => simp
  | cons n ns ih =>
    have := ih (fun m hm => h2 m (by simp [hm]))
    have := (h2 n (by simp)).1
    simp only [List.length_cons, List.sum_cons]; omega
theorem ends_len {c : CutZ} (ok : c.Ok) (l : List Int) : (endsZ c l).length ≤ l.length := by rw [endsZ_length]; exact lensZ_len ok l

/-- the parameters as the walk has them -/
def CutZ.raw (c : CutZ) : Value := .agg #[.int .i64 c.mn, .int .i64 c.mx, .int .i64 c.wn, .int .u64 c.mask]
theorem joined_three (L : Option Addr) (lc B : Nat) (A A2 A3 : Option Addr) (cap cap2 cap3 : Nat) (zs zs2 zs3 : List Int) (w : World) (hl : Row w B L [.slice A zs.length cap, .slice A2 zs2.length cap2, .slice A3 zs3.length cap3])
    (hp : Row w B A (zs.map (.int .u8))) (hp2 : Row w B A2 (zs2.map (.int .u8))) (hp3 : Row w B A3 (zs3.map (.int .u8))) (hB : B ≤ w.heap.size) (hsum : zs.length + zs2.length + zs3.length ≤ 140737488355328) :
    Calls Try.prog 31 #[.slice L 3 lc] w fun e w' => ∃ A' cap', e = .returned (.slice A' (zs ++ (zs2 ++ zs3)).length cap') ∧
      w'.ownsRow w.heap.size 5 1 (.slice A' (zs ++ (zs2 ++ zs3)).length cap') (zs ++ (zs2 ++ zs3)).length ((zs ++ (zs2 ++ zs3)).map (.int .u8)) ∧ Below w.heap.size w w' := by
  have e : flat [⟨A, cap, zs⟩, ⟨A2, cap2, zs2⟩, ⟨A3, cap3, zs3⟩] = zs ++ (zs2 ++ zs3) := by simp [flat]
  have h := joined_any L lc B [⟨A, cap, zs⟩, ⟨A2, cap2, zs2⟩, ⟨A3, cap3, zs3⟩] w hl (fun p hp' => by
    rcases List.mem_cons.1 hp' with rfl | hp'
    · exact hp
    · rcases List.mem_cons.1 hp' with rfl | hp'
      · exact hp2
      · rw [List.mem_singleton] at hp'; subst hp'; exact hp3) hB (by simp) (by rw [e, List.length_append, List.length_append]; omega)
  rw [e] at h
  exact h

end Go.Proofs.Ytnjhipnfhapngaa
