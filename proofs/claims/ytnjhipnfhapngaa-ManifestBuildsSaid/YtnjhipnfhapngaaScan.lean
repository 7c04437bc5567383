/-
  chunker's scanner: newScanner, push; chunker.Check.
-/
import Derived.Test.YtnjhipnfhapngaaRolling
import Derived.Test.YtnjhipnfhapngaaCutLaws
namespace Go.Proofs.Ytnjhipnfhapngaa
set_option linter.unusedVariables false
set_option linter.unusedSimpArgs false
set_option linter.unnecessarySimpa false
open Go.RowKit
attribute [local go_sem ↓] Go.wp_at_zero Go.wp_at_succ

/-- parameters by value -/
def cutV (mn mx wn m : Int) : Value := .agg #[.int .i64 mn, .int .i64 mx, .int .i64 wn, .int .u64 m]
/-- the error for parameters -/
def cutErr (mn mx wn : Int) : Int := if wn < 1 ∨ 64 < wn ∨ mn < wn ∨ mx < mn ∨ 8192 < mx then 240 else 0
theorem cutErr_bad {mn mx wn : Int} (h : wn < 1 ∨ 64 < wn ∨ mn < wn ∨ mx < mn ∨ 8192 < mx) : 240 = cutErr mn mx wn := (if_pos h).symm
theorem cutErr_ok {mn mx wn : Int} (h : ¬ (wn < 1 ∨ 64 < wn ∨ mn < wn ∨ mx < mn ∨ 8192 < mx)) : 0 = cutErr mn mx wn := (if_neg h).symm
theorem cutErr_z {c : CutZ} (ok : c.Ok) : cutErr c.mn c.mx c.wn = 0 := by
  obtain ⟨h1, h2, h3, h4, h5, _, _⟩ := ok
  exact if_neg (by omega)

set_option maxHeartbeats 400000 in
theorem check_any (mn mx wn m : Int) (w : World) :
    Calls Try.prog 87 #[cutV mn mx wn m] w fun e w' => e = .returned (.int .i64 (cutErr mn mx wn)) ∧ Below w.heap.size w w' := by
  unfold cutV
  go_enter Try.func87, Try.ntmps87
  go_wp2
  all_goals go_ret
  all_goals refine ⟨ret_i64 ?_, by (repeat (first | exact Below.refl _ _ | assumption | refine Below.drew ?_ | refine below_drewN ?_ _ | refine Below.alloc ?_ (by first | omega | (simp; done) | (simp; omega) | (simp [World.setCell]; omega)) _ | refine Below.setCell ?_ (by first | omega | (simp; done) | (simp; omega) | (simp [World.setCell]; omega)) _))⟩
  all_goals first | exact cutErr_bad (by omega) | exact cutErr_ok (by omega)

set_option maxHeartbeats 400000 in
theorem refCheck_any (mn mx wn m : Int) (w : World) :
    Calls Try.prog 85 #[cutV mn mx wn m] w fun e w' => e = .returned (.int .i64 (cutErr mn mx wn)) ∧ Below w.heap.size w w' := by
  unfold cutV
  go_enter Try.func85, Try.ntmps85
  go_wp2
  all_goals go_ret
  all_goals refine ⟨ret_i64 ?_, by (repeat (first | exact Below.refl _ _ | assumption | refine Below.drew ?_ | refine below_drewN ?_ _ | refine Below.alloc ?_ (by first | omega | (simp; done) | (simp; omega) | (simp [World.setCell]; omega)) _ | refine Below.setCell ?_ (by first | omega | (simp; done) | (simp; omega) | (simp [World.setCell]; omega)) _))⟩
  all_goals first | exact cutErr_bad (by omega) | exact cutErr_ok (by omega)

/-- the cells of a scanner -/
def scA (c : CutZ) (g : Nat) (L : Int) : Array Value := #[.int .i64 c.mn, .int .i64 c.mx, .int .i64 c.wn, .int .u64 c.mask, .pointer (some ⟨g, 0, none⟩), .int .i64 L]
/-- block s is a scanner with the roller g; T: all bytes up to now; L: the bytes of the chunk up to now -/
structure Scn (w : World) (s g : Nat) (c : CutZ) (T : List Int) (L : Nat) : Prop where
  blk : Blk w s 118 (scA c g L)
  rol : Rol w g c.wn (lastN c.wn T)
theorem Scn.ne {w : World} {s g : Nat} {c : CutZ} {T : List Int} {L : Nat} (h : Scn w s g c T L) : s ≠ g := by
  obtain ⟨_, _, hB', _⟩ := h.rol.ex
  exact h.blk.ne_ hB' (by decide)
theorem Scn.ch {w w' : World} {S : Nat → Prop} {s g : Nat} {c : CutZ} {T : List Int} {L : Nat} (h : Scn w s g c T L) (k : Ch S w w') (h1 : ¬ S s) (h2 : ¬ S g) : Scn w' s g c T L := ⟨h.blk.ch k h1, h.rol.ch k h2⟩
theorem Scn.of {w w' : World} {s g : Nat} {c : CutZ} {T : List Int} {L : Nat} (h : Scn w s g c T L) (k : Below w.heap.size w w') : Scn w' s g c T L := ⟨h.blk.of k, h.rol.of k⟩
theorem Scn.cells {w : World} {s g : Nat} {c : CutZ} {T : List Int} {L : Nat} (h : Scn w s g c T L) :
    w.cell? ⟨s, 0, none⟩ = some (.int .i64 c.mn) ∧ w.cell? ⟨s, 1, none⟩ = some (.int .i64 c.mx) ∧ w.cell? ⟨s, 3, none⟩ = some (.int .u64 c.mask) ∧ w.cell? ⟨s, 4, none⟩ = some (.pointer (some ⟨g, 0, none⟩)) ∧ w.cell? ⟨s, 5, none⟩ = some (.int .i64 L) ∧ w.frozen? ⟨s, 5, none⟩ = false :=
  ⟨(h.blk.cell 0).trans rfl, (h.blk.cell 1).trans rfl, (h.blk.cell 3).trans rfl, (h.blk.cell 4).trans rfl, (h.blk.cell 5).trans rfl, h.blk.frozen 5⟩

set_option maxHeartbeats 1000000 in
theorem newScanner_ok (c : CutZ) (ok : c.Ok) (w : World) :
    Calls Try.prog 74 #[cutV c.mn c.mx c.wn c.mask] w fun e w' => ∃ s g, e = .returned (.tuple #[.pointer (some ⟨s, 0, none⟩), .int .i64 0]) ∧ Scn w' s g c [] 0 ∧ w.heap.size ≤ s ∧ w.heap.size ≤ g ∧ Below w.heap.size w w' := by
  have HC := Lib.hid (fun W => check_any c.mn c.mx c.wn c.mask W)
  rw [cutErr_z ok] at HC
  unfold cutV at HC ⊢
  have o1 := ok.w1
  have o2 := ok.w64
  have HN := Lib.hid (fun W => rNew_ok c.wn W o1 o2)
  obtain ⟨mn, mx, wn, mask⟩ := c
  go_enter Try.func74, Try.ntmps74
  go_wp2_with fail
  refine (HC.out _).mono ?_
  rintro e w1 ⟨rfl, hb⟩
  have g0 := grew_alloc w (.cells #[.int .i64 mn, .int .i64 mx, .int .i64 wn, .int .u64 mask] 83)
  have hc0 := (Blk.new w 83 #[.int .i64 mn, .int .i64 mx, .int .i64 wn, .int .u64 mask]).of hb
  have hb1 : Grew w w1 := g0.trans hb
  have d0 := hc0.cell 0
  have d1 := hc0.cell 1
  have d2 := hc0.cell 2
  have d3 := hc0.cell 3
  simp only [List.getElem?_toArray, List.getElem?_cons_zero, List.getElem?_cons_succ] at d0 d1 d2 d3
  clear g0 hb HC
  go_wp2_with fail
  refine (HN.out _).mono ?_
  rintro e w2 ⟨g, rfl, hR, hg, hb⟩
  replace d0 := cell_up hb d0
  replace d1 := cell_up hb d1
  replace d2 := cell_up hb d2
  replace d3 := cell_up hb d3
  have hs1 := hb1.size
  have hb2 : Grew w w2 := Grew.trans hb1 hb
  clear hb hb1 hc0 HN
  go_wp2_with fail
  go_ret2
  have hs2 := hb2.size
  exact ⟨w2.heap.size, g, rfl, ⟨Blk.new w2 _ _, by rw [lastN_nil]; exact hR.of (grew_alloc _ _)⟩, hs2, by omega, Grew.trans hb2 (grew_alloc _ _)⟩

set_option maxHeartbeats 1000000 in
theorem newScanner_no (mn mx wn m : Int) (w : World) (h : cutErr mn mx wn ≠ 0) :
    Calls Try.prog 74 #[cutV mn mx wn m] w fun e w' => e = .returned (.tuple #[.pointer none, .int .i64 240]) ∧ Below w.heap.size w w' := by
  have he : cutErr mn mx wn = 240 := by unfold cutErr at h ⊢; split at h <;> simp_all
  have HC := Lib.hid (fun W => check_any mn mx wn m W)
  rw [he] at HC
  clear he h
  unfold cutV at HC ⊢
  go_enter Try.func74, Try.ntmps74
  go_wp2_with fail
  refine (HC.out _).mono ?_
  rintro e w1 ⟨rfl, hb⟩
  go_wp2_with fail
  go_ret2
  exact ⟨rfl, Grew.trans (grew_alloc _ _) hb⟩

end Go.Proofs.Ytnjhipnfhapngaa
