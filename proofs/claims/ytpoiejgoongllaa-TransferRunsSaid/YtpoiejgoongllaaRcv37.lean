/-
  Packets; what a receiver holds and where it lies; what Take does to it.
-/
import Derived.Test.YtpoiejgoongllaaClone37
import Derived.Test.YtpoiejgoongllaaBack25
namespace Go.Proofs.Ytpoiejgoongllaa
section
set_option linter.unusedVariables false
set_option linter.unusedSimpArgs false
set_option linter.unnecessarySimpa false
open Go.RowKit

/-- a packet: Kind, ID, From, Bytes -/
structure Pk where
  kind : Int
  id : IdZ
  frm : Int
  p : Part
def pkC (x : Pk) : List Value := [.int .i64 x.kind, .int .u64 x.id.1, .int .i64 x.id.2, .int .i64 x.frm, x.p.v]
def pkV (x : Pk) : Value := .agg #[.int .i64 x.kind, .int .u64 x.id.1, .int .i64 x.id.2, .int .i64 x.frm, x.p.v]
def pksC (l : List Pk) : List Value := l.flatMap pkC
theorem pksC_len (l : List Pk) : (pksC l).length = l.length * 5 := by
  induction l with
  | nil => rfl
  | cons x l ih => simp only [pksC, List.flatMap_cons, List.length_append, List.length_cons] at ih ⊢; rw [ih]; simp [pkC]; omega
theorem pksC_append (l m : List Pk) : pksC (l ++ m) = pksC l ++ pksC m := by simp [pksC]
theorem ones_pks (l : List Pk) : ∀ u ∈ pksC l, u.oneCell' = true := by
  intro u hu
  obtain ⟨x, _, hx⟩ := List.mem_flatMap.1 hu
  simp only [pkC, List.mem_cons, List.not_mem_nil, or_false] at hx
  rcases hx with rfl | rfl | rfl | rfl | rfl <;> rfl
theorem elem_pk : Elem Try.prog 49 55 5 56 := elem_mk (z := .agg #[.int .i64 0, .int .u64 0, .int .i64 0, .int .i64 0, .slice none 0 0]) Try.underlying49 (by kernel_rfl) rfl (by omega)

/-- what a receiver holds -/
structure Rcv where
  n : Nat
  ids : List IdZ
  comp : IdZ → Option (List Int)
  pref : IdZ → List Int
  miss : List IdZ
  recv : List IdZ
/-- where it lies -/
structure RcL where
  ai : Option Addr
  ci : Nat
  bc : Nat
  bp : Nat
  am : Option Addr
  cm : Nat
  ar : Option Addr
  cr : Nat
  C : IdZ → Option Addr × Nat
  P : IdZ → Option Addr × Nat
def RcL.iv (L : RcL) (r : Rcv) : Value := .slice L.ai r.ids.length L.ci
def RcL.mv (L : RcL) (r : Rcv) : Value := .slice L.am r.miss.length L.cm
def RcL.rv (L : RcL) (r : Rcv) : Value := .slice L.ar r.recv.length L.cr
def RcL.cv (L : RcL) (x : IdZ) (zs : List Int) : Value := .slice (L.C x).1 zs.length (L.C x).2
def RcL.pv (L : RcL) (x : IdZ) (zs : List Int) : Value := .slice (L.P x).1 zs.length (L.P x).2
/-- the map of the complete chunks, the map of the prefixes -/
def compM (L : RcL) (r : Rcv) : IdZ → Option Value := fun x => (r.comp x).map (L.cv x)
def prefM (L : RcL) (r : Rcv) : IdZ → Option Value := fun x => if r.pref x = [] then none else some (L.pv x (r.pref x))
/-- the blocks that a receiver writes -/
def RcL.F (L : RcL) (r : Rcv) (g : Nat) : Nat → Prop := fun k => k = g ∨ k = L.bc ∨ k = L.bp ∨ (L.mv r).ownBlock = some k ∨ (L.rv r).ownBlock = some k ∨ ∃ x, r.pref x ≠ [] ∧ (L.pv x (r.pref x)).ownBlock = some k
def rcB (L : RcL) (r : Rcv) : Array Value := #[.int .i64 r.n, L.iv r, .map (some L.bc), .map (some L.bp), L.mv r, L.rv r]
structure RcvIs (w : World) (base g M : Nat) (L : RcL) (r : Rcv) : Prop where
  blk : Blk w g 98 (rcB L r)
  ids : w.ownsRow base 53 2 (L.iv r) r.ids.length (idsC r.ids)
  mc : MapIs w L.bc M (compM L r)
  mp : MapIs w L.bp M (prefM L r)
  miss : w.ownsRow base 53 2 (L.mv r) r.miss.length (idsC r.miss)
  recv : w.ownsRow base 53 2 (L.rv r) r.recv.length (idsC r.recv)
  comp : ∀ x zs, r.comp x = some zs → w.ownsRow base 5 1 (L.cv x zs) zs.length (zs.map (.int .u8))
  pref : ∀ x, r.pref x ≠ [] → w.ownsRow base 5 1 (L.pv x (r.pref x)) (r.pref x).length ((r.pref x).map (.int .u8))
  bne : L.bc ≠ L.bp
  d1 : ∀ k, (L.mv r).ownBlock = some k → (L.rv r).ownBlock ≠ some k
  d2 : ∀ k, (L.iv r).ownBlock = some k → (L.mv r).ownBlock ≠ some k ∧ (L.rv r).ownBlock ≠ some k
  d3 : ∀ x y, x ≠ y → r.pref x ≠ [] → r.pref y ≠ [] → ∀ k, (L.pv x (r.pref x)).ownBlock = some k → (L.pv y (r.pref y)).ownBlock ≠ some k
  d4 : ∀ x y zs, r.comp x = some zs → r.pref y ≠ [] → ∀ k, (L.cv x zs).ownBlock = some k → (L.pv y (r.pref y)).ownBlock ≠ some k
  lo : base ≤ g ∧ base ≤ L.bc ∧ base ≤ L.bp
section
variable {w w' : World} {base g M : Nat} {L : RcL} {r : Rcv} {S : Nat → Prop}
theorem RcvIs.lt (h : RcvIs w base g M L r) : g < w.heap.size := h.blk.lt
theorem RcvIs.Flo (h : RcvIs w base g M L r) : ∀ k, L.F r g k → base ≤ k := by
  intro k hk
  rcases hk with rfl | rfl | rfl | hk | hk | ⟨x, hx, hk⟩
  · exact h.lo.1
  · exact h.lo.2.1
  · exact h.lo.2.2
  · exact own_lt h.miss k hk
  · exact own_lt h.recv k hk
  · exact own_lt (h.pref x hx) k hk
theorem RcvIs.Flt (h : RcvIs w base g M L r) : ∀ k, L.F r g k → k < w.heap.size := by
  intro k hk
  rcases hk with rfl | rfl | rfl | hk | hk | ⟨x, hx, hk⟩
  · exact h.lt
  · exact h.mc.lt
  · exact h.mp.lt
  · exact (h.miss.lt k hk).2
  · exact (h.recv.lt k hk).2
  · exact ((h.pref x hx).lt k hk).2
/-- .. what changes is none of the receiver's -/
theorem RcvIs.ch (h : RcvIs w base g M L r) (k : Ch S w w') (hS : ∀ i, base ≤ i → i < w.heap.size → ¬ S i) : RcvIs w' base g M L r where
  blk := h.blk.ch k (hS _ h.lo.1 h.lt)
  ids := own_ch h.ids k (fun i hi => hS i (own_lt h.ids i hi) (h.ids.lt i hi).2)
  mc := h.mc.ch k (hS _ h.lo.2.1 h.mc.lt)
  mp := h.mp.ch k (hS _ h.lo.2.2 h.mp.lt)
  miss := own_ch h.miss k (fun i hi => hS i (own_lt h.miss i hi) (h.miss.lt i hi).2)
  recv := own_ch h.recv k (fun i hi => hS i (own_lt h.recv i hi) (h.recv.lt i hi).2)
  comp := fun x zs hx => own_ch (h.comp x zs hx) k (fun i hi => hS i (own_lt (h.comp x zs hx) i hi) ((h.comp x zs hx).lt i hi).2)
  pref := fun x hx => own_ch (h.pref x hx) k (fun i hi => hS i (own_lt (h.pref x hx) i hi) ((h.pref x hx).lt i hi).2)
  bne := h.bne
  d1 := h.d1
  d2 := h.d2
  d3 := h.d3
  d4 := h.d4
  lo := h.lo
theorem RcvIs.of (h : RcvIs w base g M L r) (k : Grew w w') : RcvIs w' base g M L r := h.ch (S := NoB) (Ch.of_below k) (fun _ _ _ h => h)
theorem RcvIs.more {M' : Nat} (h : RcvIs w base g M L r) (hm : M ≤ M') : RcvIs w base g M' L r := { h with mc := h.mc.mono hm, mp := h.mp.mono hm }
end
/-- what is so of every receiver -/
structure RcOk (r : Rcv) : Prop where
  chk : chkM (r.n : Int) r.ids = 0
  wf : ∀ x ∈ r.ids, WfI x
  sub : ∀ x ∈ r.miss, x ∈ r.ids
  nodup : r.miss.Nodup
  pref : ∀ x, r.pref x ≠ [] → x ∈ r.miss ∧ ((r.pref x).length : Int) < x.2 ∧ Byt (r.pref x)
  comp : ∀ x zs, r.comp x = some zs → idOf zs = x ∧ Byt zs
  all : ∀ x ∈ r.ids, x ∈ r.miss ∨ r.comp x ≠ none
  got : ∀ x ∈ r.recv, r.comp x ≠ none
  cnt : r.miss.length + r.recv.length ≤ r.ids.length
theorem RcOk.len {r : Rcv} (h : RcOk r) : r.ids.length ≤ 1024 ∧ r.n ≤ 1048576 ∧ r.miss.length ≤ 1024 ∧ r.recv.length ≤ 1024 := by
  obtain ⟨h1, _, h2, h3⟩ := chkM_zero h.chk
  have := h.cnt
  omega
theorem RcOk.size {r : Rcv} (h : RcOk r) {x : IdZ} (hx : x ∈ r.ids) : 1 ≤ x.2 ∧ x.2 ≤ 8192 := by
  have h1 := List.all_eq_true.1 (chkM_zero h.chk).2.1 x hx
  unfold okId at h1
  simp only [Bool.and_eq_true, decide_eq_true_eq] at h1
  exact h1.2
/-- f with v at x -/
def updF {α : Type} (f : IdZ → α) (x : IdZ) (v : α) : IdZ → α := fun y => if y = x then v else f y
/-- is a packet taken up? -/
def takesP (r : Rcv) (k : Int) (x : IdZ) (f : Int) (zs : List Int) : Prop := k = 2 ∧ 1 ≤ zs.length ∧ zs.length ≤ 1024 ∧ x ∈ r.miss ∧ f = ((r.pref x).length : Int) ∧ ((r.pref x).length : Int) + zs.length ≤ x.2
instance (r : Rcv) (k : Int) (x : IdZ) (f : Int) (zs : List Int) : Decidable (takesP r k x f zs) := by unfold takesP; infer_instance
/-- what Take does: P37.3 -/
def takeR (r : Rcv) (k : Int) (x : IdZ) (f : Int) (zs : List Int) : Rcv × Bool :=
  if takesP r k x f zs then
    if ((r.pref x ++ zs).length : Int) < x.2 then ({ r with pref := updF r.pref x (r.pref x ++ zs) }, true)
    else if idOf (r.pref x ++ zs) = x then ({ r with pref := updF r.pref x [], comp := updF r.comp x (some (r.pref x ++ zs)), miss := r.miss.erase x, recv := r.recv ++ [x] }, true)
    else ({ r with pref := updF r.pref x [] }, false)
  else (r, false)
theorem RcOk.take {r : Rcv} (h : RcOk r) (k : Int) (x : IdZ) (f : Int) (zs : List Int) (hz : Byt zs) : RcOk (takeR r k x f zs).1 := by
  unfold takeR
  by_cases ht : takesP r k x f zs
  · rw [if_pos ht]
    obtain ⟨_, h1, h2, h3, _, h4⟩ := ht
    have hb : Byt (r.pref x ++ zs) := by
      intro z hm
      rcases List.mem_append.1 hm with hm | hm
      · by_cases hp : r.pref x = []
        · rw [hp] at hm; cases hm
        · exact (h.pref x hp).2.2 z hm
      · exact hz z hm
    by_cases hl : ((r.pref x ++ zs).length : Int) < x.2
    · rw [if_pos hl]
      refine ⟨h.chk, h.wf, h.sub, h.nodup, fun y hy => ?_, h.comp, h.all, h.got, h.cnt⟩
      simp only [updF] at hy ⊢
      by_cases e : y = x
      · subst e; rw [if_pos rfl]; exact ⟨h3, hl, hb⟩
      · rw [if_neg e] at hy ⊢; exact h.pref y hy
    · rw [if_neg hl]
      by_cases hi : idOf (r.pref x ++ zs) = x
      · rw [if_pos hi]
        have hnx : ∀ y, y ∈ r.miss.erase x → y ≠ x := fun y hy => ((List.Nodup.mem_erase_iff h.nodup).1 hy).1
        refine ⟨h.chk, h.wf, fun y hy => h.sub y (List.mem_of_mem_erase hy), h.nodup.erase x, fun y hy => ?_, fun y ys hy => ?_, fun y hy => ?_, fun y hy => ?_, ?_⟩
        · simp only [updF] at hy ⊢
          by_cases e : y = x
          · subst e; rw [if_pos rfl] at hy; exact absurd rfl hy
          · rw [if_neg e] at hy ⊢
            obtain ⟨p1, p2, p3⟩ := h.pref y hy
            exact ⟨(List.Nodup.mem_erase_iff h.nodup).2 ⟨e, p1⟩, p2, p3⟩
        · simp only [updF] at hy
          by_cases e : y = x
          · subst e; rw [if_pos rfl] at hy; cases hy; exact ⟨hi, hb⟩
          · rw [if_neg e] at hy; exact h.comp y ys hy
        · simp only [updF]
          by_cases e : y = x
          · subst e; right; rw [if_pos rfl]; simp
          · rw [if_neg e]
            rcases h.all y hy with h5 | h5
            · exact .inl ((List.Nodup.mem_erase_iff h.nodup).2 ⟨e, h5⟩)
            · exact .inr h5
        · simp only [updF]
          by_cases e : y = x
          · subst e; rw [if_pos rfl]; simp
          · rw [if_neg e]
            rcases List.mem_append.1 hy with h5 | h5
            · exact h.got y h5
            · exact absurd (List.mem_singleton.1 h5) e
        · simp only [List.length_append, List.length_singleton]
          rw [List.length_erase_of_mem h3]
          have := h.cnt
          have := List.length_pos_of_mem h3
          omega
      · rw [if_neg hi]
        refine ⟨h.chk, h.wf, h.sub, h.nodup, fun y hy => ?_, h.comp, h.all, h.got, h.cnt⟩
        simp only [updF] at hy ⊢
        by_cases e : y = x
        · subst e; rw [if_pos rfl] at hy; exact absurd rfl hy
        · rw [if_neg e] at hy ⊢; exact h.pref y hy
  · rw [if_neg ht]; exact h
end
end Go.Proofs.Ytpoiejgoongllaa
