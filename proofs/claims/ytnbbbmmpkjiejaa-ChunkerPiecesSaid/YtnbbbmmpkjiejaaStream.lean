/-
  chunker.Stream: New, cutOff, Pending, Close, Write.
-/
import Derived.Test.YtnbbbmmpkjiejaaFullZ
import Derived.Test.YtnbbbmmpkjiejaaTexts
import Derived.Deep.LoopGhost
namespace Go.Proofs.Ytnbbbmmpkjiejaa
set_option linter.unusedVariables false
set_option linter.unusedSimpArgs false
set_option linter.unnecessarySimpa false
open Go.RowKit
attribute [local go_sem ↓] Go.wp_at_zero Go.wp_at_succ

/-- block t is a stream over the scanner s with the roller g; T: all bytes up to now, rest: those that it holds, at H -/
structure Stm (w : World) (t s g base : Nat) (c : CutZ) (H : Value) (T rest : List Int) : Prop where
  blk : Blk w t 73 #[.pointer (some ⟨s, 0, none⟩), H]
  own : w.ownsRow base 5 1 H rest.length (rest.map (.int .u8))
  scn : Scn w s g c T rest.length
  suf : ∃ pre, T = pre ++ rest
  no : nxtL c rest = none
/-- the blocks that a stream's functions may change -/
def StB (t s g : Nat) (H : Value) : Nat → Prop := fun k => (k = t ∨ k = s ∨ k = g) ∨ H.ownBlock = some k

set_option maxHeartbeats 1000000 in
theorem newStream_ok (c : CutZ) (ok : c.Ok) (w : World) :
    Calls Try.prog 28 #[.agg #[.int .i64 c.mn, .int .i64 c.mx, .int .i64 c.wn, .int .u64 c.mask]] w fun e w' => ∃ t s g, e = .returned (.tuple #[.pointer (some ⟨t, 0, none⟩), .int .i64 0]) ∧ Stm w' t s g w.heap.size c (.slice none 0 0) [] [] ∧ w.heap.size ≤ t ∧ w.heap.size ≤ s ∧ w.heap.size ≤ g ∧ Below w.heap.size w w' := by
  have HC := Lib.hid (fun W => newScanner_ok c ok W)
  unfold cutV at HC
  go_enter Try.func28, Try.ntmps28
  go_wp2_with fail
  refine (HC.out _).mono ?_
  rintro e w1 ⟨s, g, rfl, hS, hs, hg, hb⟩
  have hb1 := Grew.trans (grew_alloc w (.cells #[.int .i64 c.mn, .int .i64 c.mx, .int .i64 c.wn, .int .u64 c.mask] 28)) hb
  have z : (w.alloc (.cells #[.int .i64 c.mn, .int .i64 c.mx, .int .i64 c.wn, .int .u64 c.mask] 28)).heap.size = w.heap.size + 1 := by simp
  rw [z] at hs hg
  clear hb z
  go_wp2_with fail
  go_ret2
  have hs1 := hb1.size
  exact ⟨w1.heap.size, s, g, rfl, ⟨Blk.new w1 _ _, World.ownsRow_nil _ _ _ _, hS.of (grew_alloc _ _), ⟨[], rfl⟩, nxtL_nil⟩, hs1, by omega, by omega, Grew.trans hb1 (grew_alloc _ _)⟩

set_option maxHeartbeats 1000000 in
theorem newStream_no (mn mx wn m : Int) (w : World) (h : cutErr mn mx wn ≠ 0) :
    Calls Try.prog 28 #[.agg #[.int .i64 mn, .int .i64 mx, .int .i64 wn, .int .u64 m]] w fun e w' => e = .returned (.tuple #[.pointer none, .int .i64 240]) ∧ Below w.heap.size w w' := by
  have HC := Lib.hid (fun W => newScanner_no mn mx wn m W h)
  unfold cutV at HC
  clear h
  go_enter Try.func28, Try.ntmps28
  go_wp2_with fail
  refine (HC.out _).mono ?_
  rintro e w1 ⟨rfl, hb⟩
  go_wp2_with fail
  go_ret2
  exact ⟨rfl, Grew.trans (grew_alloc _ _) hb⟩

set_option maxHeartbeats 1000000 in
theorem split_bad (mn mx wn m : Int) (A : Option Addr) (len cap : Nat) (w : World) (h : cutErr mn mx wn ≠ 0) :
    Calls Try.prog 22 #[.agg #[.int .i64 mn, .int .i64 mx, .int .i64 wn, .int .u64 m], .slice A len cap] w fun e w' => e = .returned (.tuple #[.slice none 0 0, .int .i64 240]) ∧ Below w.heap.size w w' := by
  have HC := Lib.hid (fun W => ends_bad mn mx wn m A len cap W h)
  unfold cutV at HC
  clear h
  go_enter Try.func22, Try.ntmps22
  go_wp2_with fail
  refine (HC.out _).mono ?_
  rintro e w1 ⟨rfl, hb⟩
  go_wp2_with fail
  go_ret2
  exact ⟨rfl, Grew.trans (grew_alloc _ _) hb⟩

set_option maxHeartbeats 1000000 in
theorem pending_any (t s : Nat) (A : Option Addr) (n cap : Nat) (w : World) (hB : Blk w t 73 #[.pointer (some ⟨s, 0, none⟩), .slice A n cap]) :
    Calls Try.prog 32 #[.pointer (some ⟨t, 0, none⟩)] w fun e w' => e = .returned (.int .i64 n) ∧ w = w' := by
  have c1 : w.cell? ⟨t, 1, none⟩ = some (.slice A n cap) := (hB.cell 1).trans rfl
  go_enter Try.func32, Try.ntmps32
  go_wp2_with fail
  go_ret
  exact ⟨rfl, rfl⟩

/-- what cutOff leaves -/
def CutRes (t s base : Nat) (H : Value) (l : List Int) (w : World) (e : Ending) (w' : World) : Prop := ∃ A : Option Addr, e = .returned (.slice A l.length l.length) ∧ Tx w' base ⟨A, l.length, l⟩ ∧
  (∀ ad, A = some ad → (H.ownBlock = some ad.block ∨ w.heap.size ≤ ad.block) ∧ ad.block < w'.heap.size) ∧ Blk w' t 73 #[.pointer (some ⟨s, 0, none⟩), .slice none 0 0] ∧ Ch (fun k => k = t ∨ H.ownBlock = some k) w w'

set_option maxHeartbeats 1000000 in
theorem cutOff_any (t s base : Nat) (H : Value) (rest : List Int) (A : Option Addr) (cap B : Nat) (zs : List Int) (w : World) (hB : Blk w t 73 #[.pointer (some ⟨s, 0, none⟩), H]) (hown : w.ownsRow base 5 1 H rest.length (rest.map (.int .u8)))
    (hr : Row w B A (zs.map (.int .u8))) (hbase : base ≤ w.heap.size) (hm : rest.length + zs.length ≤ 1048576) :
    Calls Try.prog 41 #[.pointer (some ⟨t, 0, none⟩), .slice A zs.length cap] w (CutRes t s base H (rest ++ zs) w) := by
  obtain ⟨AH, cH, rfl, hcH⟩ := own_form hown
  have c1 : w.cell? ⟨t, 1, none⟩ = some (.slice AH rest.length cH) := (hB.cell 1).trans rfl
  go_enter Try.func41, Try.ntmps41
  go_wp2_with (at_builtin; refine wpList_append_row rfl (.tmp 9) (.tmp 10) rfl base elem_u8 (by rfl) hown B (by rfl) (by simp) hr (ones_u8 _) (by unfold maxLen; omega) (by omega) hbase ?_; intro A1 c3 w3 hown3 hg3 hwh; have hch := Ch.of_own hg3; have hB3 := hB.ch hch (own_blk_ne hown hB (by decide)); have c3' : w3.cell? ⟨t, 1, none⟩ = some (.slice AH rest.length cH) := (hB3.cell 1).trans rfl; have f3 := hB3.frozen 1; have hc3 := (own_cap hown3).1; have q1 : (0 : Int) ≤ (rest.length : Int) + zs.length := (by omega); have q2 : (rest.length : Int) + zs.length ≤ c3 := (by omega); clear c1 hB hc3)
  go_ret
  rw [← List.map_append] at hown3
  have hT := (Tx.own hown3).ch ((Ch.refl (At t) w3).set_at 1 (.slice none 0 0)) (blk_noBytes hB3 (by decide))
  refine ⟨A1, by rw [List.length_append]; rfl, hT, fun ad e => ?_, hB3.set_ 1 _, (hch.mono (fun k _ h => .inr h)).setCell (.inr (.inl rfl)) _⟩
  subst e
  have hlt := (hown3.lt ad.block rfl).2
  refine ⟨?_, by simpa [World.setCell] using hlt⟩
  rcases hwh with h | h
  · exact .inl h.symm
  · right
    have : ad.block = w.heap.size := by simpa [Value.ownBlock] using h
    omega

/-- what Close leaves -/
def CloseRes (t s g base : Nat) (c : CutZ) (H : Value) (rest : List Int) (w : World) (e : Ending) (w' : World) : Prop := ∃ A : Option Addr, e = .returned (.slice A rest.length rest.length) ∧ Tx w' base ⟨A, rest.length, rest⟩ ∧
  (∀ ad, A = some ad → (H.ownBlock = some ad.block ∨ w.heap.size ≤ ad.block) ∧ ad.block < w'.heap.size) ∧ Stm w' t s g base c (.slice none 0 0) [] [] ∧ Ch (StB t s g H) w w'

set_option maxHeartbeats 1000000 in
theorem close_any (t s g base : Nat) (c : CutZ) (H : Value) (T rest : List Int) (w : World) (hS : Stm w t s g base c H T rest) (hbase : base ≤ w.heap.size) (hm : rest.length ≤ 1048576) :
    Calls Try.prog 31 #[.pointer (some ⟨t, 0, none⟩)] w (CloseRes t s g base c H rest w) := by
  have c0 : w.cell? ⟨t, 0, none⟩ = some (.pointer (some ⟨s, 0, none⟩)) := (hS.blk.cell 0).trans rfl
  obtain ⟨_, _, _, c4, c5, f5⟩ := hS.scn.cells
  have hne := hS.scn.ne
  have hts : t ≠ s := hS.blk.ne_ hS.scn.blk (by decide)
  have htg : t ≠ g := by obtain ⟨_, _, hB', _⟩ := hS.scn.rol.ex; exact hS.blk.ne_ hB' (by decide)
  have HR := Lib.hid (rReset_any g c.wn (lastN c.wn T) w hS.scn.rol)
  go_enter Try.func31, Try.ntmps31
  go_wp2_with fail
  refine HR.out.mono ?_
  rintro e w1 ⟨rfl, hR, hch⟩
  have hB1 := hS.blk.ch hch htg
  have hSB := hS.scn.blk.ch hch hne
  have hog : H.ownBlock ≠ some g := hS.scn.rol.ne_own hS.own (by decide)
  have hos : H.ownBlock ≠ some s := own_blk_ne hS.own hS.scn.blk (by decide)
  have hot : H.ownBlock ≠ some t := own_blk_ne hS.own hS.blk (by decide)
  have hO := own_ch hS.own hch (fun k hk h => hog (hk.trans (congrArg some h)))
  have c0' : w1.cell? ⟨t, 0, none⟩ = some (.pointer (some ⟨s, 0, none⟩)) := (hB1.cell 0).trans rfl
  have f5' : w1.frozen? ⟨s, 5, none⟩ = false := hSB.frozen 5
  have c5' : w1.cell? ⟨s, 5, none⟩ = some (.int .i64 rest.length) := (hSB.cell 5).trans rfl
  clear c0 c4 c5 f5 HR
  go_wp2_with fail
  have hs2 := (Ch.refl (At s) w1).set_at 5 (.int .i64 0)
  have hSB2 : Blk (w1.setCell ⟨s, 5, none⟩ (.int .i64 0)) s 71 (scA c g 0) := hSB.set_ 5 (.int .i64 0)
  have hB2 := hB1.ch hs2 hts
  have hR2 := hR.ch hs2 (Ne.symm hne)
  have hO2 := own_ch hO hs2 (fun k hk h => hos (hk.trans (congrArg some h)))
  have hsz : w.heap.size ≤ (w1.setCell ⟨s, 5, none⟩ (.int .i64 0)).heap.size := Nat.le_trans hch.size hs2.size
  have hchA : Ch (StB t s g H) w (w1.setCell ⟨s, 5, none⟩ (.int .i64 0)) := (hch.mono (fun k _ h => .inl (.inr (.inr h)))).trans (hs2.mono (fun k _ h => .inl (.inr (.inl h))))
  clear c0' f5' c5' hch hs2
  generalize w1.setCell ⟨s, 5, none⟩ (.int .i64 0) = w2 at *
  refine (cutOff_any t s base H rest none 0 0 [] w2 hB2 hO2 (.inl rfl) (Nat.le_trans hbase hsz) (by simpa using hm)).mono ?_
  rintro e w3 ⟨A, rfl, hT, hA, hB3, hch3⟩
  rw [List.append_nil] at hT
  go_wp2_with fail
  go_ret
  refine ⟨A, rfl, hT, fun ad e => ?_, ⟨hB3, World.ownsRow_nil _ _ _ _, ⟨hSB2.ch hch3 ?_, ?_⟩, ⟨[], rfl⟩, nxtL_nil⟩, hchA.trans (hch3.mono (fun k _ h => ?_))⟩
  · refine ⟨?_, (hA ad e).2⟩
    rcases (hA ad e).1 with h | h
    · exact .inl h
    · exact .inr (Nat.le_trans hsz h)
  · rintro (h | h)
    · exact hts h.symm
    · exact hos h
  · rw [lastN_nil]
    refine hR2.ch hch3 ?_
    rintro (h | h)
    · exact htg h.symm
    · exact hog h
  · rcases h with h | h
    · exact .inl (.inl h)
    · exact .inr h

/-- what Write leaves -/
def WriteRes (t s g base : Nat) (c : CutZ) (H : Value) (T l : List Int) (w : World) (e : Ending) (w' : World) : Prop := ∃ (A : Option Addr) (cap : Nat) (ps : List Part) (ls : List Nat) (r : List Int) (H' : Value),
  e = .returned (.slice A ps.length cap) ∧ w'.ownsRow w.heap.size 30 1 (.slice A ps.length cap) ps.length (ps.map Part.v) ∧ Txs w' base ps ∧ FullZ c l ls r ∧ ps.map Part.zs = cutsL ls l ∧
  (∀ p ∈ ps, ∀ ad, p.A = some ad → (H.ownBlock = some ad.block ∨ w.heap.size ≤ ad.block) ∧ ad.block < w'.heap.size ∧ H'.ownBlock ≠ some ad.block) ∧ (∀ k, H'.ownBlock = some k → H.ownBlock = some k ∨ w.heap.size ≤ k) ∧
  Stm w' t s g base c H' T r ∧ Ch (StB t s g H) w w'

end Go.Proofs.Ytnbbbmmpkjiejaa
