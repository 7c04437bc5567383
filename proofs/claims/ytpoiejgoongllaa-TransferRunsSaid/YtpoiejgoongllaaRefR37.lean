/-
  The reference's receiver; stockyardref37.ok, Missing, Ask.
-/
import Derived.Test.YtpoiejgoongllaaRefWith37
import Derived.Test.YtpoiejgoongllaaRcv37
namespace Go.Proofs.Ytpoiejgoongllaa
set_option linter.unusedVariables false
set_option linter.unusedSimpArgs false
set_option linter.unnecessarySimpa false
open Go.RowKit
attribute [local go_sem ↓] Go.wp_at_zero Go.wp_at_succ

/-- what a reference's receiver holds -/
structure RfR where
  n : Nat
  ids : List IdZ
  had : List ChZ
  got : List ChZ
  pre : List ChZ
/-- where it lies -/
structure RfL where
  ai : Option Addr
  ci : Nat
  ah : Option Addr
  ch : Nat
  ag : Option Addr
  cg : Nat
  ap : Option Addr
  cp : Nat
def rfC (L : RfL) (R : RfR) : List Value := [.int .i64 R.n, .slice L.ai R.ids.length L.ci, .slice L.ah R.had.length L.ch, .slice L.ag R.got.length L.cg, .slice L.ap R.pre.length L.cp]
def rfV (L : RfL) (R : RfR) : Value := .agg #[.int .i64 R.n, .slice L.ai R.ids.length L.ci, .slice L.ah R.had.length L.ch, .slice L.ag R.got.length L.cg, .slice L.ap R.pre.length L.cp]
structure RfIs (w : World) (L : RfL) (R : RfR) : Prop where
  rids : Row w w.heap.size L.ai (idsC R.ids)
  rhad : Row w w.heap.size L.ah (chsC R.had)
  rgot : Row w w.heap.size L.ag (chsC R.got)
  rpre : Row w w.heap.size L.ap (chsC R.pre)
  lhad : LieC w w.heap.size R.had
  lgot : LieC w w.heap.size R.got
  lpre : LieC w w.heap.size R.pre
theorem LieC.up {w w' : World} {l : List ChZ} (h : LieC w w.heap.size l) (k : Grew w w') : LieC w' w'.heap.size l := fun c hc => ((h c hc).up k (Nat.le_refl _)).more k.size
theorem RfIs.up {w w' : World} {L : RfL} {R : RfR} (h : RfIs w L R) (k : Grew w w') : RfIs w' L R :=
  ⟨(h.rids.up k (Nat.le_refl _)).more k.size, (h.rhad.up k (Nat.le_refl _)).more k.size, (h.rgot.up k (Nat.le_refl _)).more k.size, (h.rpre.up k (Nat.le_refl _)).more k.size, h.lhad.up k, h.lgot.up k, h.lpre.up k⟩
def ChB (l : List ChZ) : Prop := ∀ c ∈ l, Byt c.p.zs ∧ c.p.zs.length ≤ 1048576
structure RfOk (R : RfR) : Prop where
  bhad : ChB R.had
  bgot : ChB R.got
  bpre : ChB R.pre
  nids : R.ids.length ≤ 1048576
  nhad : R.had.length ≤ 1048576
  ngot : R.got.length ≤ 1048576
  npre : R.pre.length ≤ 1048576
def okR (R : RfR) (x : IdZ) : Bool := (withP R.had x).isSome || (withP R.got x).isSome
theorem ChB.any {l : List ChZ} (h : ChB l) : ∀ c ∈ l, Byt c.p.zs ∧ c.p.zs.length ≤ 9223372036854775807 := fun c hc => ⟨(h c hc).1, Nat.le_trans (h c hc).2 (by omega)⟩

set_option maxRecDepth 100000 in
set_option maxHeartbeats 2000000 in
theorem ok37_any (L : RfL) (R : RfR) (x : IdZ) (w : World) (h : RfIs w L R) (ok : RfOk R) :
    Calls Try.prog 64 #[rfV L R, .agg #[.int .u64 x.1, .int .i64 x.2]] w fun e w' => e = .returned (.bool (okR R x)) ∧ Grew w w' := by
  obtain ⟨xs, xn⟩ := x
  have g0 := grew_alloc w (.cells #[.int .i64 R.n, .slice L.ai R.ids.length L.ci, .slice L.ah R.had.length L.ch, .slice L.ag R.got.length L.cg, .slice L.ap R.pre.length L.cp] 71)
  have kR := Blk.new w 71 #[.int .i64 R.n, .slice L.ai R.ids.length L.ci, .slice L.ah R.had.length L.ch, .slice L.ag R.got.length L.cg, .slice L.ap R.pre.length L.cp]
  have g1 := grew_alloc (w.alloc (.cells #[.int .i64 R.n, .slice L.ai R.ids.length L.ci, .slice L.ah R.had.length L.ch, .slice L.ag R.got.length L.cg, .slice L.ap R.pre.length L.cp] 71)) (.cells #[.int .u64 xs, .int .i64 xn] 53)
  have kX := Blk.new (w.alloc (.cells #[.int .i64 R.n, .slice L.ai R.ids.length L.ci, .slice L.ah R.had.length L.ch, .slice L.ag R.got.length L.cg, .slice L.ap R.pre.length L.cp] 71)) 53 #[.int .u64 xs, .int .i64 xn]
  replace kR := kR.of g1
  have s0 : (w.alloc (.cells #[.int .i64 R.n, .slice L.ai R.ids.length L.ci, .slice L.ah R.had.length L.ch, .slice L.ag R.got.length L.cg, .slice L.ap R.pre.length L.cp] 71)).heap.size = w.heap.size + 1 := by simp
  rw [s0] at kX
  have HG := Lib.hid (Grew.trans g0 g1)
  have HI := Lib.hid (h.up (Grew.trans g0 g1))
  have HOk := Lib.hid ok
  clear h ok g0 g1 s0
  have c2 := (kR.cell 2).trans (show _ = some (.slice L.ah R.had.length L.ch) from rfl)
  have c3 := (kR.cell 3).trans (show _ = some (.slice L.ag R.got.length L.cg) from rfl)
  have x0 := (kX.cell 0).trans (show _ = some (.int .u64 xs) from rfl)
  have x1 := (kX.cell 1).trans (show _ = some (.int .i64 xn) from rfl)
  clear kR kX
  unfold rfV
  go_enter Try.func64, Try.ntmps64
  go_wp2_with fail
  generalize ((w.alloc (.cells #[.int .i64 R.n, .slice L.ai R.ids.length L.ci, .slice L.ah R.had.length L.ch, .slice L.ag R.got.length L.cg, .slice L.ap R.pre.length L.cp] 71)).alloc (.cells #[.int .u64 xs, .int .i64 xn] 53)) = w1 at *
  refine (with37_any L.ah L.ch R.had (xs, xn) w1 HI.out.rhad HI.out.lhad HOk.out.bhad.any (by have := HOk.out.nhad; omega)).mono ?_
  rintro e w2 ⟨rfl, hg2⟩
  replace c3 := cell_up hg2 c3
  replace x0 := cell_up hg2 x0
  replace x1 := cell_up hg2 x1
  have HI2 := Lib.hid (HI.out.up hg2)
  have HG2 := Lib.hid (Grew.trans HG.out hg2)
  clear hg2 c2 HI HG
  generalize hb1 : (withP R.had (xs, xn)).isSome = b1
  have HB1 := Lib.hid hb1
  clear hb1
  generalize withV R.had (xs, xn) = v1
  go_wp2_with fail
  refine (with37_any L.ag L.cg R.got (xs, xn) w2 HI2.out.rgot HI2.out.lgot HOk.out.bgot.any (by have := HOk.out.ngot; omega)).mono ?_
  rintro e w3 ⟨rfl, hg3⟩
  have HG3 := Lib.hid (Grew.trans HG2.out hg3)
  clear hg3 c3 x0 x1 HI2 HG2
  generalize hb2 : (withP R.got (xs, xn)).isSome = b2
  have HB2 : Hid (okR R (xs, xn) = (b1 || b2)) := Lib.hid (by unfold okR; rw [HB1.out, hb2])
  clear hb2
  generalize withV R.got (xs, xn) = v2
  cases b1 <;> cases b2
  all_goals
    go_wp2_with fail
    go_ret
    exact ⟨by rw [HB2.out]; rfl, HG3.out⟩
end Go.Proofs.Ytpoiejgoongllaa
