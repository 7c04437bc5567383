/-
  What transfer.Run holds besides the receiver.
-/
import Derived.Test.YtpoiejgoongllaaSteps37
namespace Go.Proofs.Ytpoiejgoongllaa
section
set_option linter.unusedVariables false
set_option linter.unusedSimpArgs false
set_option linter.unnecessarySimpa false
open Go.RowKit

theorem findP_snoc (cs : List ChZ) (k : Nat) (h : k < cs.length) (x : IdZ) : findP (cs.take (k + 1)) x = (findP (cs.take k) x).or (if cs[k].id = x then some cs[k].p else none) := by
  unfold findP
  rw [List.take_succ_eq_append_getElem h, List.find?_append]
  cases (cs.take k).find? (fun c => decide (c.id = x)) with
  | some c => rfl
  | none =>
    simp only [Option.map_none, Option.none_or, List.find?_cons, List.find?_nil]
    by_cases he : cs[k].id = x
    · rw [if_pos he]; simp [he]
    · rw [if_neg he]; simp [he]
theorem sndM_old {cs : List ChZ} {k : Nat} (h : k < cs.length) (hs : (sndM (cs.take k) cs[k].id).isSome = true) (x : IdZ) : sndM (cs.take k) x = sndM (cs.take (k + 1)) x := by
  unfold sndM at hs ⊢
  rw [findP_snoc cs k h]
  by_cases he : cs[k].id = x
  · rw [if_pos he]
    rw [he] at hs
    cases hf : findP (cs.take k) x with
    | none => rw [hf] at hs; cases hs
    | some p => rfl
  · rw [if_neg he]
    cases findP (cs.take k) x <;> rfl
theorem sndM_new {cs : List ChZ} {k : Nat} (h : k < cs.length) (hs : sndM (cs.take k) cs[k].id = none) (x : IdZ) : updM (sndM (cs.take k)) cs[k].id cs[k].p.v x = sndM (cs.take (k + 1)) x := by
  unfold updM
  unfold sndM at hs ⊢
  rw [findP_snoc cs k h]
  by_cases he : x = cs[k].id
  · rw [if_pos he, if_pos he.symm]
    rw [← he] at hs
    cases hf : findP (cs.take k) x with
    | none => rfl
    | some p => rw [hf] at hs; cases hs
  · rw [if_neg he, if_neg (fun e => he e.symm)]
    cases findP (cs.take k) x <;> rfl
section
variable {w w' : World} {base g M : Nat} {L : RcL} {r : Rcv} {gx : Nat} {t : TypeId} {cs : Array Value}
/-- a block of another kind is none of the receiver's -/
theorem RcvIs.notF (h : RcvIs w base g M L r) (hB : Blk w gx t cs) (h1 : t ≠ 98) (h2 : t ≠ 53) (h3 : t ≠ 5) : ¬ L.F r g gx := by
  rintro (rfl | rfl | rfl | hk | hk | ⟨x, hx, hk⟩)
  · exact hB.ne_ h.blk h1 rfl
  · exact h.mc.ne_blk hB rfl
  · exact h.mp.ne_blk hB rfl
  · exact own_blk_ne h.miss hB (fun e => h2 e.symm) hk
  · exact own_blk_ne h.recv hB (fun e => h2 e.symm) hk
  · exact own_blk_ne (h.pref x hx) hB (fun e => h3 e.symm) hk
/-- .. and what is written there does not touch it -/
theorem RcvIs.chB (h : RcvIs w base g M L r) (k : Ch (At gx) w w') (hB : Blk w gx t cs) (h1 : t ≠ 98) (h2 : t ≠ 53) (h3 : t ≠ 5) : RcvIs w' base g M L r where
  blk := h.blk.ch k (fun e => hB.ne_ h.blk h1 (by have e2 : g = gx := e; exact e2.symm))
  ids := own_ch h.ids k (fun i hi e => own_blk_ne h.ids hB (fun e => h2 e.symm) (by have e2 : i = gx := e; rw [← e2]; exact hi))
  mc := h.mc.ch k (fun e => h.mc.ne_blk hB e)
  mp := h.mp.ch k (fun e => h.mp.ne_blk hB e)
  miss := own_ch h.miss k (fun i hi e => own_blk_ne h.miss hB (fun e => h2 e.symm) (by have e2 : i = gx := e; rw [← e2]; exact hi))
  recv := own_ch h.recv k (fun i hi e => own_blk_ne h.recv hB (fun e => h2 e.symm) (by have e2 : i = gx := e; rw [← e2]; exact hi))
  comp := fun x zs hx => own_ch (h.comp x zs hx) k (fun i hi e => own_blk_ne (h.comp x zs hx) hB (fun e => h3 e.symm) (by have e2 : i = gx := e; rw [← e2]; exact hi))
  pref := fun x hx => own_ch (h.pref x hx) k (fun i hi e => own_blk_ne (h.pref x hx) hB (fun e => h3 e.symm) (by have e2 : i = gx := e; rw [← e2]; exact hi))
  bne := h.bne
  d1 := h.d1
  d2 := h.d2
  d3 := h.d3
  d4 := h.d4
  lo := h.lo
/-- .. nor what is written to another's map -/
theorem RcvIs.chM {N : Nat} {f : IdZ → Option Value} (h : RcvIs w base g M L r) (k : Ch (At gx) w w') (hM : MapIs w gx N f) (hF : ¬ L.F r g gx) : RcvIs w' base g M L r where
  blk := h.blk.ch k (fun e => hF (.inl (by have e2 : g = gx := e; exact e2.symm)))
  ids := own_ch h.ids k (fun i hi e => hM.ne_own h.ids (by have e2 : i = gx := e; rw [← e2]; exact hi))
  mc := h.mc.ch k (fun e => hF (.inr (.inl (by have e2 : L.bc = gx := e; exact e2.symm))))
  mp := h.mp.ch k (fun e => hF (.inr (.inr (.inl (by have e2 : L.bp = gx := e; exact e2.symm)))))
  miss := own_ch h.miss k (fun i hi e => hM.ne_own h.miss (by have e2 : i = gx := e; rw [← e2]; exact hi))
  recv := own_ch h.recv k (fun i hi e => hM.ne_own h.recv (by have e2 : i = gx := e; rw [← e2]; exact hi))
  comp := fun x zs hx => own_ch (h.comp x zs hx) k (fun i hi e => hM.ne_own (h.comp x zs hx) (by have e2 : i = gx := e; rw [← e2]; exact hi))
  pref := fun x hx => own_ch (h.pref x hx) k (fun i hi e => hM.ne_own (h.pref x hx) (by have e2 : i = gx := e; rw [← e2]; exact hi))
  bne := h.bne
  d1 := h.d1
  d2 := h.d2
  d3 := h.d3
  d4 := h.d4
  lo := h.lo
end
/-- where the boxes lie -/
structure RunP where
  gR : Nat
  gF : Nat
  gN : Nat
  gS : Nat
  gC : Nat
  gP : Nat
  gT : Nat
  g : Nat
  bm : Nat
  N : Nat
/-- the boxes of transfer.Run in round n -/
structure RunIs (w : World) (B : Nat) (P : RunP) (cs : List ChZ) (vf : Value) (n : Nat) : Prop where
  rb : Blk w P.gR 45 #[.pointer (some ⟨P.g, 0, none⟩)]
  fb : Blk w P.gF 36 #[vf]
  nb : Blk w P.gN 3 #[.int .i64 n]
  sb : Blk w P.gS 96 #[.func (Fn.func 47) #[] #[.pointer (some ⟨P.gC, 0, none⟩)]]
  cb : Blk w P.gC 94 #[.map (some P.bm)]
  mp : MapIs w P.bm P.N (sndM cs)
  tb : Blk w P.gT 1 #[.func (Fn.func 49) #[] #[.pointer (some ⟨P.gR, 0, none⟩), .pointer (some ⟨P.gP, 0, none⟩)],
    .func (Fn.func 50) #[] #[.pointer (some ⟨P.gP, 0, none⟩), .pointer (some ⟨P.gF, 0, none⟩), .pointer (some ⟨P.gN, 0, none⟩)],
    .func (Fn.func 52) #[] #[.pointer (some ⟨P.gP, 0, none⟩), .pointer (some ⟨P.gS, 0, none⟩)],
    .func (Fn.func 54) #[] #[.pointer (some ⟨P.gP, 0, none⟩), .pointer (some ⟨P.gF, 0, none⟩), .pointer (some ⟨P.gN, 0, none⟩)],
    .func (Fn.func 55) #[] #[.pointer (some ⟨P.gR, 0, none⟩), .pointer (some ⟨P.gP, 0, none⟩)]]
  bm : P.bm ≠ P.gP
section
variable {w w' : World} {B : Nat} {P : RunP} {cs : List ChZ} {vf v : Value} {n : Nat} {S : Nat → Prop}
theorem RunIs.ch (h : RunIs w B P cs vf n) (k : Ch S w w') (hS : ∀ gx (t : TypeId) (vs : Array Value), Blk w gx t vs → t = 45 ∨ t = 36 ∨ t = 3 ∨ t = 96 ∨ t = 94 ∨ t = 1 → ¬ S gx) (hb : ¬ S P.bm) : RunIs w' B P cs vf n where
  rb := h.rb.ch k (hS _ _ _ h.rb (.inl rfl))
  fb := h.fb.ch k (hS _ _ _ h.fb (.inr (.inl rfl)))
  nb := h.nb.ch k (hS _ _ _ h.nb (.inr (.inr (.inl rfl))))
  sb := h.sb.ch k (hS _ _ _ h.sb (.inr (.inr (.inr (.inl rfl)))))
  cb := h.cb.ch k (hS _ _ _ h.cb (.inr (.inr (.inr (.inr (.inl rfl))))))
  mp := h.mp.ch k hb
  tb := h.tb.ch k (hS _ _ _ h.tb (.inr (.inr (.inr (.inr (.inr rfl))))))
  bm := h.bm
theorem RunIs.of (h : RunIs w B P cs vf n) (k : Grew w w') : RunIs w' B P cs vf n := h.ch (S := NoB) (Ch.of_below k) (fun _ _ _ _ _ h => h) (fun h => h)
/-- packets are put into their box -/
theorem RunIs.put (h : RunIs w B P cs vf n) (hP : Blk w P.gP 49 #[v]) (k : Ch (At P.gP) w w') : RunIs w' B P cs vf n :=
  h.ch k (fun gx t vs hB ht e => by
    have e2 : gx = P.gP := e
    refine hB.ne_ hP ?_ e2
    rcases ht with rfl | rfl | rfl | rfl | rfl | rfl <;> decide) (fun e => h.bm e)
/-- the receiver takes packets -/
theorem RunIs.took {base M : Nat} {L : RcL} {r : Rcv} (h : RunIs w B P cs vf n) (hR : RcvIs w base P.g M L r) (hb : ¬ L.F r P.g P.bm) (k : Ch (L.F r P.g) w w') : RunIs w' B P cs vf n :=
  h.ch k (fun gx t vs hB ht => by
    refine hR.notF hB ?_ ?_ ?_
    all_goals (rcases ht with rfl | rfl | rfl | rfl | rfl | rfl <;> decide)) hb
/-- the next round -/
theorem RunIs.next (h : RunIs w B P cs vf n) : RunIs (w.setCell ⟨P.gN, 0, none⟩ (.int .i64 (n + 1 : Nat))) B P cs vf (n + 1) := by
  have k := (Ch.refl (At P.gN) w).set_at 0 (.int .i64 (n + 1 : Nat))
  have hn : ∀ {gx : Nat} {t : TypeId} {vs : Array Value}, Blk w gx t vs → t ≠ 3 → ¬ At P.gN gx := fun hB ht e => hB.ne_ h.nb ht e
  exact ⟨h.rb.ch k (hn h.rb (by decide)), h.fb.ch k (hn h.fb (by decide)), h.nb.set_ 0 _, h.sb.ch k (hn h.sb (by decide)), h.cb.ch k (hn h.cb (by decide)), h.mp.ch k (fun e => h.mp.ne_blk h.nb e), h.tb.ch k (hn h.tb (by decide)), h.bm⟩
end
theorem run_store_func {P : Program} (W : World) (fn : Fn) (a b : Array Value) (t : TypeId) : (store ⟨W.heap.size, 0, none⟩ (.func fn a b)).run P (W.alloc (.cells #[.nilFunc] t)) = .ok () (W.alloc (.cells #[.func fn a b] t)) := by
  have h := Blk.new W t #[.nilFunc]
  rw [run_store P _ _ _ _ rfl, h.cell 0, h.frozen 0]
  simp only [World.setCell_alloc_new]
  rfl
end
end Go.Proofs.Ytpoiejgoongllaa
