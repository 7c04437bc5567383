/-
  The steps of Take on what a receiver holds: a prefix stored, a prefix dropped, a chunk complete, one less missing, one more received.
-/
import Derived.Test.YtpoiejgoongllaaServe37
namespace Go.Proofs.Ytpoiejgoongllaa
section
set_option linter.unusedVariables false
set_option linter.unusedSimpArgs false
set_option linter.unnecessarySimpa false
open Go.RowKit

/-- from one receiver to the next: what is changed is its own, or new -/
structure Stp (w w' : World) (base g M M' : Nat) (L L' : RcL) (r r' : Rcv) : Prop where
  is : RcvIs w' base g M' L' r'
  ch : Ch (L.F r g) w w'
  fr : ∀ k, L'.F r' g k → L.F r g k ∨ w.heap.size ≤ k
section
variable {w w1 w2 w' : World} {base g M M1 M2 M' : Nat} {L L1 L2 L' : RcL} {r r1 r2 r' : Rcv}
theorem Stp.trans (h : Stp w w1 base g M M1 L L1 r r1) (k : Stp w1 w2 base g M1 M2 L1 L2 r1 r2) : Stp w w2 base g M M2 L L2 r r2 :=
  ⟨k.is, h.ch.nextNew k.ch (fun i hi => (h.fr i hi).symm), fun i hi => (k.fr i hi).elim (fun h1 => h.fr i h1) (fun h1 => .inr (Nat.le_trans h.ch.size h1))⟩
theorem Stp.grew (h : RcvIs w base g M L r) (hg : Grew w w') : Stp w w' base g M M L L r r := ⟨h.of hg, Ch.of_below hg, fun _ h => .inl h⟩
theorem Stp.below (h : Stp w w' base g M M' L L' r r') (h0 : RcvIs w base g M L r) (hb : base ≤ w.heap.size) : Below base w w' := h.ch.below hb h0.Flo
theorem RcvIs.pOld (h : RcvIs w base g M L r) (x y : IdZ) (hxy : y ≠ x) (hy : r.pref y ≠ []) : ∀ k, (L.pv y (r.pref y)).ownBlock = some k → (Value.slice (pvO L r x).1 (r.pref x).length (pvO L r x).2).ownBlock ≠ some k := by
  intro k hk
  unfold pvO
  by_cases hp : r.pref x = []
  · rw [if_pos hp]; intro h; cases h
  · rw [if_neg hp]; exact h.d3 y x hxy hy hp k hk
theorem RcvIs.cOld (h : RcvIs w base g M L r) (x y : IdZ) {zs : List Int} (hy : r.comp y = some zs) : ∀ k, (L.cv y zs).ownBlock = some k → (Value.slice (pvO L r x).1 (r.pref x).length (pvO L r x).2).ownBlock ≠ some k := by
  intro k hk
  unfold pvO
  by_cases hp : r.pref x = []
  · rw [if_pos hp]; intro h; cases h
  · rw [if_neg hp]; exact h.d4 y x zs hy hp k hk
theorem RcvIs.oldF (h : RcvIs w base g M L r) (x : IdZ) : ∀ k, (Value.slice (pvO L r x).1 (r.pref x).length (pvO L r x).2).ownBlock = some k → L.F r g k := by
  intro k hk
  unfold pvO at hk
  by_cases hp : r.pref x = []
  · rw [if_pos hp] at hk; cases hk
  · rw [if_neg hp] at hk; exact .inr (.inr (.inr (.inr (.inr ⟨x, hp, hk⟩))))

/-- a prefix is stored -/
theorem RcvIs.setPref (h : RcvIs w base g M L r) {x : IdZ} {A : Option Addr} {c : Nat} {ys : List Int} (hys : ys ≠ []) (k1 : Ch (fun k => (Value.slice (pvO L r x).1 (r.pref x).length (pvO L r x).2).ownBlock = some k) w w1)
    (hn : w1.ownsRow base 5 1 (.slice A ys.length c) ys.length (ys.map (.int .u8))) (hor : (Value.slice A ys.length c).ownBlock = (Value.slice (pvO L r x).1 (r.pref x).length (pvO L r x).2).ownBlock ∨ (Value.slice A ys.length c).ownBlock = some w.heap.size)
    (mp : MapIs w2 L.bp (M + 1) (updM (prefM L r) x (.slice A ys.length c))) (k2 : Ch (At L.bp) w1 w2) :
    Stp w w2 base g M (M + 1) L { L with P := updF L.P x (A, c) } r { r with pref := updF r.pref x ys } := by
  have ho := h.prefOwn x
  have mp1 := h.mp.ch k1 (h.mp.ne_own ho)
  have hnF : ∀ k, (Value.slice A ys.length c).ownBlock = some k → L.F r g k ∨ w.heap.size ≤ k := by
    intro k hk
    rcases hor with e | e
    · rw [e] at hk; exact .inl (h.oldF x k hk)
    · rw [e] at hk; injection hk with hk; exact .inr (by omega)
  have hnP : ∀ y, y ≠ x → r.pref y ≠ [] → ∀ k, (L.pv y (r.pref y)).ownBlock = some k → (Value.slice A ys.length c).ownBlock ≠ some k := by
    intro y hy hp k hk
    rcases hor with e | e
    · rw [e]; exact h.pOld x y hy hp k hk
    · rw [e]; intro e2; injection e2 with e2; have := ((h.pref y hp).lt k hk).2; omega
  have hnC : ∀ y zs, r.comp y = some zs → ∀ k, (L.cv y zs).ownBlock = some k → (Value.slice A ys.length c).ownBlock ≠ some k := by
    intro y zs hy k hk
    rcases hor with e | e
    · rw [e]; exact h.cOld x y hy k hk
    · rw [e]; intro e2; injection e2 with e2; have := ((h.comp y zs hy).lt k hk).2; omega
  refine ⟨⟨?_, ?_, ?_, ?_, ?_, ?_, ?_, ?_, h.bne, h.d1, h.d2, ?_, ?_, h.lo⟩, ?_, ?_⟩
  · exact (h.blk.ch k1 (own_blk_ne ho h.blk (by decide))).ch k2 (fun e => mp1.ne_blk (h.blk.ch k1 (own_blk_ne ho h.blk (by decide))) e.symm)
  · exact own_ch (own_ch h.ids k1 (own_own_ne h.ids ho (by decide))) k2 (fun i hi e => mp1.ne_own (own_ch h.ids k1 (own_own_ne h.ids ho (by decide))) (hi.trans (congrArg some e)))
  · exact ((h.mc.ch k1 (h.mc.ne_own ho)).ch k2 h.bne).mono (Nat.le_succ _)
  · refine mp.congr (fun y => ?_)
    unfold updM prefM
    by_cases e : y = x
    · subst e
      simp only [updF, if_true, if_neg hys]
      unfold RcL.pv
      simp only [updF, if_true]
    · simp only [updF, if_neg e]
      unfold RcL.pv
      simp only [updF, if_neg e]
  · exact own_ch (own_ch h.miss k1 (own_own_ne h.miss ho (by decide))) k2 (fun i hi e => mp1.ne_own (own_ch h.miss k1 (own_own_ne h.miss ho (by decide))) (hi.trans (congrArg some e)))
  · exact own_ch (own_ch h.recv k1 (own_own_ne h.recv ho (by decide))) k2 (fun i hi e => mp1.ne_own (own_ch h.recv k1 (own_own_ne h.recv ho (by decide))) (hi.trans (congrArg some e)))
  · intro y zs hy
    have h1 := own_ch (h.comp y zs hy) k1 (fun i hi e => h.cOld x y hy i hi e)
    exact own_ch h1 k2 (fun i hi e => mp1.ne_own h1 (hi.trans (congrArg some e)))
  · intro y hy
    simp only [updF] at hy ⊢
    unfold RcL.pv
    simp only [updF]
    by_cases e : y = x
    · simp only [if_pos e]
      exact own_ch hn k2 (fun i hi e => mp1.ne_own hn (hi.trans (congrArg some e)))
    · simp only [if_neg e] at hy ⊢
      have h1 := own_ch (h.pref y hy) k1 (fun i hi e2 => h.pOld x y e hy i hi e2)
      exact own_ch h1 k2 (fun i hi e => mp1.ne_own h1 (hi.trans (congrArg some e)))
  · intro y z hyz hy hz k hk
    unfold RcL.pv at hk ⊢
    simp only [updF] at hy hz hk ⊢
    by_cases e : y = x
    · simp only [if_pos e] at hk
      have e2 : z ≠ x := fun h => hyz (e.trans h.symm)
      simp only [if_neg e2] at hz ⊢
      intro e3
      exact hnP z e2 hz k e3 hk
    · simp only [if_neg e] at hy hk
      by_cases e2 : z = x
      · simp only [if_pos e2]
        exact hnP y e hy k hk
      · simp only [if_neg e2] at hz ⊢
        exact h.d3 y z hyz hy hz k hk
  · intro y z zs hy hz k hk
    unfold RcL.pv
    simp only [updF] at hz ⊢
    by_cases e : z = x
    · simp only [if_pos e]
      exact hnC y zs hy k hk
    · simp only [if_neg e] at hz ⊢
      exact h.d4 y z zs hy hz k hk
  · refine (k1.mono (fun k _ hk => h.oldF x k hk)).trans (k2.mono (fun k _ hk => ?_))
    exact .inr (.inr (.inl hk))
  · intro k hk
    rcases hk with hk | hk | hk | hk | hk | ⟨y, hy, hk⟩
    · exact .inl (.inl hk)
    · exact .inl (.inr (.inl hk))
    · exact .inl (.inr (.inr (.inl hk)))
    · exact .inl (.inr (.inr (.inr (.inl hk))))
    · exact .inl (.inr (.inr (.inr (.inr (.inl hk)))))
    · unfold RcL.pv at hk
      simp only [updF] at hy hk
      by_cases e : y = x
      · simp only [if_pos e] at hk
        exact hnF k hk
      · simp only [if_neg e] at hy hk
        exact .inl (.inr (.inr (.inr (.inr (.inr ⟨y, hy, hk⟩)))))

/-- a prefix is dropped -/
theorem RcvIs.dropPref (h : RcvIs w base g M L r) {x : IdZ} (mp : MapIs w2 L.bp M (delM (prefM L r) x)) (k2 : Ch (At L.bp) w w2) :
    Stp w w2 base g M M L L r { r with pref := updF r.pref x [] } := by
  have hP : ∀ y, updF r.pref x [] y ≠ [] → y ≠ x ∧ r.pref y ≠ [] ∧ updF r.pref x [] y = r.pref y := by
    intro y hy
    simp only [updF] at hy ⊢
    by_cases e : y = x
    · rw [if_pos e] at hy; exact absurd rfl hy
    · rw [if_neg e] at hy ⊢; exact ⟨e, hy, rfl⟩
  refine ⟨⟨?_, ?_, ?_, ?_, ?_, ?_, ?_, ?_, h.bne, h.d1, h.d2, ?_, ?_, h.lo⟩, ?_, ?_⟩
  · exact h.blk.ch k2 (fun e => h.mp.ne_blk h.blk e.symm)
  · exact own_ch h.ids k2 (fun i hi e => h.mp.ne_own h.ids (hi.trans (congrArg some e)))
  · exact h.mc.ch k2 h.bne
  · refine mp.congr (fun y => ?_)
    unfold delM prefM
    by_cases e : y = x
    · subst e
      simp only [updF, if_true]
    · simp only [updF, if_neg e]
  · exact own_ch h.miss k2 (fun i hi e => h.mp.ne_own h.miss (hi.trans (congrArg some e)))
  · exact own_ch h.recv k2 (fun i hi e => h.mp.ne_own h.recv (hi.trans (congrArg some e)))
  · intro y zs hy
    exact own_ch (h.comp y zs hy) k2 (fun i hi e => h.mp.ne_own (h.comp y zs hy) (hi.trans (congrArg some e)))
  · intro y hy
    obtain ⟨e, hp, he⟩ := hP y hy
    simp only [he]
    exact own_ch (h.pref y hp) k2 (fun i hi e => h.mp.ne_own (h.pref y hp) (hi.trans (congrArg some e)))
  · intro y z hyz hy hz k hk
    obtain ⟨_, hp, he⟩ := hP y hy
    obtain ⟨_, hq, hf⟩ := hP z hz
    simp only [he] at hk
    simp only [hf]
    exact h.d3 y z hyz hp hq k hk
  · intro y z zs hy hz k hk
    obtain ⟨_, hq, hf⟩ := hP z hz
    simp only [hf]
    exact h.d4 y z zs hy hq k hk
  · exact k2.mono (fun k _ hk => .inr (.inr (.inl hk)))
  · intro k hk
    rcases hk with hk | hk | hk | hk | hk | ⟨y, hy, hk⟩
    · exact .inl (.inl hk)
    · exact .inl (.inr (.inl hk))
    · exact .inl (.inr (.inr (.inl hk)))
    · exact .inl (.inr (.inr (.inr (.inl hk))))
    · exact .inl (.inr (.inr (.inr (.inr (.inl hk)))))
    · obtain ⟨_, hp, he⟩ := hP y hy
      simp only [he] at hk
      exact .inl (.inr (.inr (.inr (.inr (.inr ⟨y, hp, hk⟩)))))

/-- a chunk is complete -/
theorem RcvIs.setComp (h : RcvIs w base g M L r) {x : IdZ} {A : Option Addr} {c : Nat} {ys : List Int} (hn : w.ownsRow base 5 1 (.slice A ys.length c) ys.length (ys.map (.int .u8)))
    (hnP : ∀ y, r.pref y ≠ [] → ∀ k, (Value.slice A ys.length c).ownBlock = some k → (L.pv y (r.pref y)).ownBlock ≠ some k)
    (mc : MapIs w2 L.bc (M + 1) (updM (compM L r) x (.slice A ys.length c))) (k2 : Ch (At L.bc) w w2) :
    Stp w w2 base g M (M + 1) L { L with C := updF L.C x (A, c) } r { r with comp := updF r.comp x (some ys) } := by
  refine ⟨⟨?_, ?_, ?_, ?_, ?_, ?_, ?_, ?_, h.bne, h.d1, h.d2, h.d3, ?_, h.lo⟩, ?_, fun k hk => .inl hk⟩
  · exact h.blk.ch k2 (fun e => h.mc.ne_blk h.blk e.symm)
  · exact own_ch h.ids k2 (fun i hi e => h.mc.ne_own h.ids (hi.trans (congrArg some e)))
  · refine mc.congr (fun y => ?_)
    unfold updM compM
    by_cases e : y = x
    · subst e
      simp only [updF, if_true, Option.map_some]
      unfold RcL.cv
      simp only [updF, if_true]
    · simp only [updF, if_neg e]
      unfold RcL.cv
      simp only [updF, if_neg e]
  · exact (h.mp.ch k2 (fun e => h.bne e.symm)).mono (Nat.le_succ _)
  · exact own_ch h.miss k2 (fun i hi e => h.mc.ne_own h.miss (hi.trans (congrArg some e)))
  · exact own_ch h.recv k2 (fun i hi e => h.mc.ne_own h.recv (hi.trans (congrArg some e)))
  · intro y zs hy
    unfold RcL.cv
    simp only [updF] at hy ⊢
    by_cases e : y = x
    · simp only [if_pos e] at hy ⊢
      cases hy
      exact own_ch hn k2 (fun i hi e => h.mc.ne_own hn (hi.trans (congrArg some e)))
    · simp only [if_neg e] at hy ⊢
      exact own_ch (h.comp y zs hy) k2 (fun i hi e => h.mc.ne_own (h.comp y zs hy) (hi.trans (congrArg some e)))
  · intro y hy
    exact own_ch (h.pref y hy) k2 (fun i hi e => h.mc.ne_own (h.pref y hy) (hi.trans (congrArg some e)))
  · intro y z zs hy hz k hk
    unfold RcL.cv at hk
    simp only [updF] at hy hk
    by_cases e : y = x
    · simp only [if_pos e] at hy hk
      cases hy
      exact hnP z hz k hk
    · simp only [if_neg e] at hy hk
      exact h.d4 y z zs hy hz k hk
  · exact k2.mono (fun k _ hk => .inr (.inl hk))

/-- one less is missing -/
theorem RcvIs.setMiss (h : RcvIs w base g M L r) {gm : Nat} (hgm : L.am = some ⟨gm, 0, none⟩) (hm0 : 0 < r.miss.length) {ms : List IdZ} (hn : w1.ownsRow base 53 2 (.slice (some ⟨gm, 0, none⟩) ms.length L.cm) ms.length (idsC ms)) (k1 : Ch (At gm) w w1) :
    Stp w (w1.setCell ⟨g, 4, none⟩ (.slice (some ⟨gm, 0, none⟩) ms.length L.cm)) base g M M L L r { r with miss := ms } := by
  have hmv : (L.mv r).ownBlock = some gm := by unfold RcL.mv; rw [hgm]; rfl
  have hown := h.miss
  have b1 := h.blk.ch k1 (fun e => own_blk_ne h.miss h.blk (by decide) (hmv.trans (congrArg some (show gm = g from (show g = gm from e).symm))))
  have k2 : Ch (At g) w1 (w1.setCell ⟨g, 4, none⟩ (.slice (some ⟨gm, 0, none⟩) ms.length L.cm)) := (Ch.refl (At g) w1).set_at 4 _
  have c1 := h.mc.ch k1 (fun e => h.mc.ne_own h.miss (hmv.trans (congrArg some (show L.bc = gm from e).symm)))
  have p1 := h.mp.ch k1 (fun e => h.mp.ne_own h.miss (hmv.trans (congrArg some (show L.bp = gm from e).symm)))
  have hb8 : ∀ {v : Value} {n : Nat} {xs : List Value}, w.ownsRow base 5 1 v n xs → (w1.setCell ⟨g, 4, none⟩ (.slice (some ⟨gm, 0, none⟩) ms.length L.cm)).ownsRow base 5 1 v n xs := fun ho => by
    have h1 := own_ch ho k1 (fun i hi e => own_own_ne ho h.miss (by decide) i hi (hmv.trans (congrArg some (show i = gm from e).symm)))
    exact own_ch h1 k2 (fun i hi e => own_blk_ne h1 b1 (by decide) (hi.trans (congrArg some (show i = g from e))))
  have hbI : ∀ {v : Value} {n : Nat} {xs : List Value}, w1.ownsRow base 53 2 v n xs → (w1.setCell ⟨g, 4, none⟩ (.slice (some ⟨gm, 0, none⟩) ms.length L.cm)).ownsRow base 53 2 v n xs := fun ho =>
    own_ch ho k2 (fun i hi e => own_blk_ne ho b1 (by decide) (hi.trans (congrArg some (show i = g from e))))
  have hmv2 : ({ L with am := L.am } : RcL).am = some ⟨gm, 0, none⟩ := hgm
  refine ⟨⟨?_, ?_, ?_, ?_, ?_, ?_, ?_, ?_, h.bne, ?_, ?_, h.d3, h.d4, h.lo⟩, ?_, ?_⟩
  · have := b1.set_ 4 (.slice (some ⟨gm, 0, none⟩) ms.length L.cm)
    unfold rcB RcL.mv at this ⊢
    rw [hgm]
    exact this
  · exact hbI (own_ch h.ids k1 (fun i hi e => (h.d2 i hi).1 (hmv.trans (congrArg some (show i = gm from e).symm))))
  · exact c1.ch k2 (fun e => c1.ne_blk b1 e)
  · exact p1.ch k2 (fun e => p1.ne_blk b1 e)
  · unfold RcL.mv
    rw [hgm]
    exact hbI hn
  · exact hbI (own_ch h.recv k1 (fun i hi e => h.d1 gm hmv (hi.trans (congrArg some (show i = gm from e)))))
  · intro y zs hy
    exact hb8 (h.comp y zs hy)
  · intro y hy
    exact hb8 (h.pref y hy)
  · intro k hk
    unfold RcL.mv at hk
    rw [hgm] at hk
    exact h.d1 k (hmv.trans hk)
  · intro k hk
    refine ⟨?_, (h.d2 k hk).2⟩
    unfold RcL.mv
    rw [hgm]
    intro e
    exact (h.d2 k hk).1 (hmv.trans e)
  · exact (k1.mono (fun k _ hk => .inr (.inr (.inr (.inl (hmv.trans (congrArg some (show k = gm from hk).symm))))))).trans (k2.mono (fun k _ hk => .inl hk))
  · intro k hk
    rcases hk with hk | hk | hk | hk | hk | hk
    · exact .inl (.inl hk)
    · exact .inl (.inr (.inl hk))
    · exact .inl (.inr (.inr (.inl hk)))
    · unfold RcL.mv at hk
      rw [hgm] at hk
      exact .inl (.inr (.inr (.inr (.inl (hmv.trans hk)))))
    · exact .inl (.inr (.inr (.inr (.inr (.inl hk)))))
    · exact .inl (.inr (.inr (.inr (.inr (.inr hk)))))

/-- one more is received -/
theorem RcvIs.setRecv (h : RcvIs w base g M L r) {A : Option Addr} {c : Nat} {x : IdZ} (hb : Grew w w1) (hn : w2.ownsRow base 53 2 (.slice A (r.recv.length + 1) c) (r.recv.length + 1) (idsC r.recv ++ idsC [x])) (k1 : Ch (fun k => (L.rv r).ownBlock = some k) w1 w2)
    (hor : (Value.slice A (r.recv.length + 1) c).ownBlock = (L.rv r).ownBlock ∨ (Value.slice A (r.recv.length + 1) c).ownBlock = some w1.heap.size) :
    Stp w (w2.setCell ⟨g, 5, none⟩ (.slice A (r.recv.length + 1) c)) base g M M L { L with ar := A, cr := c } r { r with recv := r.recv ++ [x] } := by
  have h1 := h.of hb
  have b1 := h1.blk.ch k1 (own_blk_ne h1.recv h1.blk (by decide))
  have k2 : Ch (At g) w2 (w2.setCell ⟨g, 5, none⟩ (.slice A (r.recv.length + 1) c)) := (Ch.refl (At g) w2).set_at 5 _
  have c1 := h1.mc.ch k1 (h1.mc.ne_own h1.recv)
  have p1 := h1.mp.ch k1 (h1.mp.ne_own h1.recv)
  have hb8 : ∀ {v : Value} {n : Nat} {xs : List Value}, w1.ownsRow base 5 1 v n xs → (w2.setCell ⟨g, 5, none⟩ (.slice A (r.recv.length + 1) c)).ownsRow base 5 1 v n xs := fun ho => by
    have h1 := own_ch ho k1 (own_own_ne ho h1.recv (by decide))
    exact own_ch h1 k2 (fun i hi e => own_blk_ne h1 b1 (by decide) (hi.trans (congrArg some (show i = g from e))))
  have hbI : ∀ {v : Value} {n : Nat} {xs : List Value}, w2.ownsRow base 53 2 v n xs → (w2.setCell ⟨g, 5, none⟩ (.slice A (r.recv.length + 1) c)).ownsRow base 53 2 v n xs := fun ho =>
    own_ch ho k2 (fun i hi e => own_blk_ne ho b1 (by decide) (hi.trans (congrArg some (show i = g from e))))
  have hrl : (r.recv ++ [x]).length = r.recv.length + 1 := by rw [List.length_append, List.length_singleton]
  have hnM : ∀ k, (L.mv r).ownBlock = some k → (Value.slice A (r.recv.length + 1) c).ownBlock ≠ some k := by
    intro k hk
    rcases hor with e | e
    · rw [e]; exact h.d1 k hk
    · rw [e]; intro e2; injection e2 with e2; have := (h1.miss.lt k hk).2; omega
  have hnI : ∀ k, (L.iv r).ownBlock = some k → (Value.slice A (r.recv.length + 1) c).ownBlock ≠ some k := by
    intro k hk
    rcases hor with e | e
    · rw [e]; exact (h.d2 k hk).2
    · rw [e]; intro e2; injection e2 with e2; have := (h1.ids.lt k hk).2; omega
  refine ⟨⟨?_, ?_, ?_, ?_, ?_, ?_, ?_, ?_, h.bne, ?_, ?_, h.d3, h.d4, h.lo⟩, ?_, ?_⟩
  · have := b1.set_ 5 (.slice A (r.recv.length + 1) c)
    unfold rcB RcL.rv at this ⊢
    simp only [hrl]
    exact this
  · exact hbI (own_ch h1.ids k1 (fun i hi => (h.d2 i hi).2))
  · exact c1.ch k2 (fun e => c1.ne_blk b1 e)
  · exact p1.ch k2 (fun e => p1.ne_blk b1 e)
  · exact hbI (own_ch h1.miss k1 (fun i hi => h.d1 i hi))
  · unfold RcL.rv
    simp only [hrl, idsC_append]
    exact hbI hn
  · intro y zs hy
    exact hb8 (h1.comp y zs hy)
  · intro y hy
    exact hb8 (h1.pref y hy)
  · intro k hk
    unfold RcL.rv
    simp only [hrl]
    exact hnM k hk
  · intro k hk
    unfold RcL.rv
    simp only [hrl]
    exact ⟨(h.d2 k hk).1, hnI k hk⟩
  · exact ((Ch.of_below hb).trans (k1.mono (fun k _ hk => .inr (.inr (.inr (.inr (.inl hk))))))).trans (k2.mono (fun k _ hk => .inl hk))
  · intro k hk
    rcases hk with hk | hk | hk | hk | hk | hk
    · exact .inl (.inl hk)
    · exact .inl (.inr (.inl hk))
    · exact .inl (.inr (.inr (.inl hk)))
    · exact .inl (.inr (.inr (.inr (.inl hk))))
    · unfold RcL.rv at hk
      simp only [hrl] at hk
      rcases hor with e | e
      · rw [e] at hk; exact .inl (.inr (.inr (.inr (.inr (.inl hk)))))
      · rw [e] at hk; injection hk with hk; right; have := hb.size; omega
    · exact .inl (.inr (.inr (.inr (.inr (.inr hk)))))
end
end
end Go.Proofs.Ytpoiejgoongllaa
