/-
  What Receive gives; the map of the wanted beside a receiver; one more missing.
-/
import Derived.Test.YtpoiejgoongllaaTake37
import Derived.Test.YtpoiejgoongllaaMiss25
namespace Go.Proofs.Ytpoiejgoongllaa
section
set_option linter.unusedVariables false
set_option linter.unusedSimpArgs false
set_option linter.unnecessarySimpa false
open Go.RowKit

/-- the bytes of the first right chunk with an ID -/
def haveC (cs : List ChZ) (x : IdZ) : Option (List Int) := (cs.find? fun c => decide (c.id = x ∧ idOf c.p.zs = x)).map fun c => c.p.zs
theorem haveC_nil (x : IdZ) : haveC [] x = none := rfl
theorem haveC_snoc (cs : List ChZ) (k : Nat) (h : k < cs.length) (x : IdZ) : haveC (cs.take (k + 1)) x = (haveC (cs.take k) x).or (if cs[k].id = x ∧ idOf cs[k].p.zs = x then some cs[k].p.zs else none) := by
  unfold haveC
  rw [List.take_succ_eq_append_getElem h, List.find?_append]
  cases (cs.take k).find? (fun c => decide (c.id = x ∧ idOf c.p.zs = x)) with
  | some c => rfl
  | none =>
    simp only [Option.none_or, Option.map_none]
    by_cases e : cs[k].id = x ∧ idOf cs[k].p.zs = x
    · rw [if_pos e, List.find?_cons_of_pos (by simpa using e)]; rfl
    · rw [if_neg e, List.find?_cons_of_neg (by simpa using e)]; rfl
theorem haveC_ok {cs : List ChZ} {x : IdZ} {zs : List Int} (h : haveC cs x = some zs) : idOf zs = x ∧ ∃ c ∈ cs, c.id = x ∧ c.p.zs = zs := by
  unfold haveC at h
  cases hf : cs.find? (fun c => decide (c.id = x ∧ idOf c.p.zs = x)) with
  | none => rw [hf] at h; cases h
  | some c =>
    rw [hf] at h
    injection h with h
    have h1 := List.find?_some hf
    simp only [decide_eq_true_eq] at h1
    subst h
    exact ⟨h1.2, c, List.mem_of_find?_eq_some hf, h1.1, rfl⟩
theorem mem_missL (l : List IdZ) : ∀ x, x ∈ missL [] l ↔ x ∈ l := by
  have h : ∀ k, k ≤ l.length → ∀ x, x ∈ missL [] (l.take k) ↔ x ∈ l.take k := by
    intro k
    induction k with
    | zero => intro _ x; simp [missL]
    | succ k ih =>
      intro hk x
      rw [missL_take (by omega), List.take_succ_eq_append_getElem (by omega), List.mem_append, List.mem_singleton, ← ih (by omega) x]
      by_cases e : l[k] ∈ ([] : List IdZ) ∨ l[k] ∈ missL [] (l.take k)
      · rw [if_pos e]
        constructor
        · exact .inl
        · rintro (h | h)
          · exact h
          · subst h; rcases e with e | e
            · cases e
            · exact e
      · rw [if_neg e, List.mem_append, List.mem_singleton]
  intro x
  have := h l.length (Nat.le_refl _) x
  rwa [List.take_length] at this
theorem nodup_missL (l : List IdZ) : (missL [] l).Nodup := by
  have h : ∀ k, k ≤ l.length → (missL [] (l.take k)).Nodup := by
    intro k
    induction k with
    | zero => intro _; simp [missL]
    | succ k ih =>
      intro hk
      rw [missL_take (by omega)]
      by_cases e : l[k] ∈ ([] : List IdZ) ∨ l[k] ∈ missL [] (l.take k)
      · rw [if_pos e]; exact ih (by omega)
      · rw [if_neg e]
        rw [List.nodup_append]
        refine ⟨ih (by omega), by simp, fun a ha b hb h => ?_⟩
        rw [List.mem_singleton] at hb
        subst hb
        subst h
        exact e (.inr ha)
  have := h l.length (Nat.le_refl _)
  rwa [List.take_length] at this
/-- a receiver of a content that has some chunks: P37.1 -/
def compH (ms : List IdZ) (cs : List ChZ) : IdZ → Option (List Int) := fun x => if x ∈ ms then haveC cs x else none
def lackH (cs : List ChZ) (l : List IdZ) : List IdZ := l.filter fun x => (haveC cs x).isNone
def recvR (n : Nat) (ids : List IdZ) (cs : List ChZ) : Rcv := ⟨n, ids, compH (missL [] ids) cs, fun _ => [], lackH cs (missL [] ids), []⟩
theorem recvR_ok {n : Nat} {ids : List IdZ} {cs : List ChZ} (hc : chkM (n : Int) ids = 0) (hw : ∀ x ∈ ids, WfI x) (hb : ∀ c ∈ cs, Byt c.p.zs) : RcOk (recvR n ids cs) where
  chk := hc
  wf := hw
  sub := fun x hx => (mem_missL ids x).1 (List.mem_filter.1 hx).1
  nodup := (nodup_missL ids).filter _
  pref := fun x hx => absurd rfl hx
  comp := fun x zs hx => by
    simp only [recvR, compH] at hx
    split at hx
    · obtain ⟨h1, c, h2, _, h3⟩ := haveC_ok hx
      exact ⟨h1, by rw [← h3]; exact hb c h2⟩
    · cases hx
  all := fun x hx => by
    simp only [recvR, lackH, compH, List.mem_filter] at hx ⊢
    have hm := (mem_missL ids x).2 hx
    rw [if_pos hm]
    cases h : haveC cs x with
    | none => left; exact ⟨hm, rfl⟩
    | some z => right; simp
  got := fun x hx => (by cases hx)
  cnt := by
    have h1 : (lackH cs (missL [] ids)).length ≤ (missL [] ids).length := List.length_filter_le _ _
    have h2 := missL_len [] ids ids.length (Nat.le_refl _)
    rw [List.take_length] at h2
    simp only [recvR, List.length_nil]
    omega
theorem lackH_snoc (cs : List ChZ) (l : List IdZ) (k : Nat) (h : k < l.length) : lackH cs (l.take (k + 1)) = lackH cs (l.take k) ++ (if (haveC cs l[k]).isNone then [l[k]] else []) := by
  unfold lackH
  rw [List.take_succ_eq_append_getElem h, List.filter_append]
  congr 1
  by_cases e : (haveC cs l[k]).isNone = true
  · rw [if_pos e, List.filter_cons_of_pos (by simpa using e)]; rfl
  · rw [if_neg e, List.filter_cons_of_neg (by simpa using e)]; rfl
/-- the map of the wanted -/
def wantM (ms : List IdZ) (cs : List ChZ) : IdZ → Option Value := fun x => if x ∈ ms then some (.bool (haveC cs x).isNone) else none
section
variable {w w' w1 w2 : World} {base g M b n : Nat} {L : RcL} {r : Rcv} {f : IdZ → Option Value}
theorem RcvIs.chMap (h : RcvIs w base g M L r) (hm : MapIs w b n f) (h1 : b ≠ L.bc) (h2 : b ≠ L.bp) (k : Ch (At b) w w') : RcvIs w' base g M L r where
  blk := h.blk.ch k (fun e => hm.ne_blk h.blk e.symm)
  ids := own_ch h.ids k (fun i hi e => hm.ne_own h.ids (hi.trans (congrArg some e)))
  mc := h.mc.ch k (fun e => h1 e.symm)
  mp := h.mp.ch k (fun e => h2 e.symm)
  miss := own_ch h.miss k (fun i hi e => hm.ne_own h.miss (hi.trans (congrArg some e)))
  recv := own_ch h.recv k (fun i hi e => hm.ne_own h.recv (hi.trans (congrArg some e)))
  comp := fun x zs hx => own_ch (h.comp x zs hx) k (fun i hi e => hm.ne_own (h.comp x zs hx) (hi.trans (congrArg some e)))
  pref := fun x hx => own_ch (h.pref x hx) k (fun i hi e => hm.ne_own (h.pref x hx) (hi.trans (congrArg some e)))
  bne := h.bne
  d1 := h.d1
  d2 := h.d2
  d3 := h.d3
  d4 := h.d4
  lo := h.lo
theorem RcvIs.mapF (h : RcvIs w base g M L r) (hm : MapIs w b n f) (h1 : b ≠ L.bc) (h2 : b ≠ L.bp) : ¬ L.F r g b := by
  rintro (e | e | e | e | e | ⟨x, hx, e⟩)
  · exact hm.ne_blk h.blk e
  · exact h1 e
  · exact h2 e
  · exact hm.ne_own h.miss e
  · exact hm.ne_own h.recv e
  · exact hm.ne_own (h.pref x hx) e
/-- one more is missing -/
theorem RcvIs.addMiss (h : RcvIs w base g M L r) {A : Option Addr} {c : Nat} {x : IdZ} (hb : Grew w w1) (hn : w2.ownsRow base 53 2 (.slice A (r.miss.length + 1) c) (r.miss.length + 1) (idsC r.miss ++ idsC [x])) (k1 : Ch (fun k => (L.mv r).ownBlock = some k) w1 w2)
    (hor : (Value.slice A (r.miss.length + 1) c).ownBlock = (L.mv r).ownBlock ∨ (Value.slice A (r.miss.length + 1) c).ownBlock = some w1.heap.size) :
    Stp w (w2.setCell ⟨g, 4, none⟩ (.slice A (r.miss.length + 1) c)) base g M M L { L with am := A, cm := c } r { r with miss := r.miss ++ [x] } := by
  have h1 := h.of hb
  have b1 := h1.blk.ch k1 (own_blk_ne h1.miss h1.blk (by decide))
  have k2 : Ch (At g) w2 (w2.setCell ⟨g, 4, none⟩ (.slice A (r.miss.length + 1) c)) := (Ch.refl (At g) w2).set_at 4 _
  have c1 := h1.mc.ch k1 (h1.mc.ne_own h1.miss)
  have p1 := h1.mp.ch k1 (h1.mp.ne_own h1.miss)
  have hb8 : ∀ {v : Value} {n : Nat} {xs : List Value}, w1.ownsRow base 5 1 v n xs → (w2.setCell ⟨g, 4, none⟩ (.slice A (r.miss.length + 1) c)).ownsRow base 5 1 v n xs := fun ho => by
    have h1 := own_ch ho k1 (own_own_ne ho h1.miss (by decide))
    exact own_ch h1 k2 (fun i hi e => own_blk_ne h1 b1 (by decide) (hi.trans (congrArg some (show i = g from e))))
  have hbI : ∀ {v : Value} {n : Nat} {xs : List Value}, w2.ownsRow base 53 2 v n xs → (w2.setCell ⟨g, 4, none⟩ (.slice A (r.miss.length + 1) c)).ownsRow base 53 2 v n xs := fun ho =>
    own_ch ho k2 (fun i hi e => own_blk_ne ho b1 (by decide) (hi.trans (congrArg some (show i = g from e))))
  have hrl : (r.miss ++ [x]).length = r.miss.length + 1 := by rw [List.length_append, List.length_singleton]
  have hnR : ∀ k, (L.rv r).ownBlock = some k → (Value.slice A (r.miss.length + 1) c).ownBlock ≠ some k := by
    intro k hk
    rcases hor with e | e
    · rw [e]; exact fun e2 => h.d1 k e2 hk
    · rw [e]; intro e2; injection e2 with e2; have := (h1.recv.lt k hk).2; omega
  have hnI : ∀ k, (L.iv r).ownBlock = some k → (Value.slice A (r.miss.length + 1) c).ownBlock ≠ some k := by
    intro k hk
    rcases hor with e | e
    · rw [e]; exact (h.d2 k hk).1
    · rw [e]; intro e2; injection e2 with e2; have := (h1.ids.lt k hk).2; omega
  refine ⟨⟨?_, ?_, ?_, ?_, ?_, ?_, ?_, ?_, h.bne, ?_, ?_, h.d3, h.d4, h.lo⟩, ?_, ?_⟩
  · have := b1.set_ 4 (.slice A (r.miss.length + 1) c)
    unfold rcB RcL.mv at this ⊢
    simp only [hrl]
    exact this
  · exact hbI (own_ch h1.ids k1 (fun i hi => (h.d2 i hi).1))
  · exact c1.ch k2 (fun e => c1.ne_blk b1 e)
  · exact p1.ch k2 (fun e => p1.ne_blk b1 e)
  · unfold RcL.mv
    simp only [hrl, idsC_append]
    exact hbI hn
  · exact hbI (own_ch h1.recv k1 (fun i hi e => h.d1 i e hi))
  · intro y zs hy
    exact hb8 (h1.comp y zs hy)
  · intro y hy
    exact hb8 (h1.pref y hy)
  · intro k hk
    unfold RcL.mv at hk
    simp only [hrl] at hk
    exact fun e => hnR k e hk
  · intro k hk
    unfold RcL.mv
    simp only [hrl]
    exact ⟨hnI k hk, (h.d2 k hk).2⟩
  · exact ((Ch.of_below hb).trans (k1.mono (fun k _ hk => .inr (.inr (.inr (.inl hk)))))).trans (k2.mono (fun k _ hk => .inl hk))
  · intro k hk
    rcases hk with hk | hk | hk | hk | hk | hk
    · exact .inl (.inl hk)
    · exact .inl (.inr (.inl hk))
    · exact .inl (.inr (.inr (.inl hk)))
    · unfold RcL.mv at hk
      simp only [hrl] at hk
      rcases hor with e | e
      · rw [e] at hk; exact .inl (.inr (.inr (.inr (.inl hk))))
      · rw [e] at hk; injection hk with hk; right; have := hb.size; omega
    · exact .inl (.inr (.inr (.inr (.inr (.inl hk)))))
    · exact .inl (.inr (.inr (.inr (.inr (.inr hk)))))
end
end
end Go.Proofs.Ytpoiejgoongllaa
