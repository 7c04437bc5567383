/-
  RefRcv37, RefRecv37.
-/
import Derived.Test.YtpoiejgoongllaaRefOf37
import Derived.Test.YtpoiejgoongllaaTx
import Derived.Test.YtpoiejgoongllaaRefCar37
import Derived.BigQuiet
namespace Go.Proofs.Ytpoiejgoongllaa
/- RefRcv37:
  What stockyardref37.Receive has at hand: plain laws, and the receiver in the making.
-/
section
set_option linter.unusedVariables false
set_option linter.unusedSimpArgs false
set_option linter.unnecessarySimpa false
open Go.RowKit

theorem withP_have (cs : List ChZ) (x : IdZ) : (withP cs x).map Part.zs = haveC cs x := by
  unfold withP haveC
  cases cs.find? (fun c => decide (c.id = x ∧ idOf c.p.zs = x)) <;> rfl
structure RvA (cs : List ChZ) (ids : List IdZ) (k : Nat) (had : List ChZ) : Prop where
  a : ∀ c ∈ had, haveC cs c.id = some c.p.zs ∧ c.id ∈ ids.take k
  b : ∀ x ∈ ids.take k, haveC cs x ≠ none → ∃ c ∈ had, c.id = x
  n : had.length ≤ k
  cap : ∀ c ∈ had, c.p.zs.length ≤ c.p.cap
structure RvC (cs : List ChZ) (ids : List IdZ) (k : Nat) (pre : List ChZ) : Prop where
  c : pre.map ChZ.id = lackH cs (missL [] (ids.take k))
  z : ∀ c ∈ pre, c.p = ⟨none, 0, []⟩
  n : pre.length ≤ k
section
variable {cs : List ChZ} {ids : List IdZ} {k : Nat} {had pre : List ChZ}
theorem RvA.nil : RvA cs ids 0 [] := ⟨fun c hc => (by cases hc), fun x hx => (by simp at hx), Nat.le_refl _, fun c hc => (by cases hc)⟩
theorem RvC.nil : RvC cs ids 0 [] := ⟨rfl, fun c hc => (by cases hc), Nat.le_refl _⟩
theorem RvA.withNone (h : RvA cs ids k had) {x : IdZ} (hn : withP had x = none) : ∀ c ∈ had, c.id ≠ x := fun c hc e => by
  unfold withP at hn
  rw [Option.map_eq_none_iff, List.find?_eq_none] at hn
  have h1 := hn c hc
  rw [decide_eq_true_eq] at h1
  exact h1 ⟨e, by rw [← e]; exact (haveC_ok (h.a c hc).1).1⟩
theorem withP_mem {l : List ChZ} {x : IdZ} {p : Part} (h : withP l x = some p) : ∃ c ∈ l, c.id = x ∧ c.p = p ∧ idOf p.zs = x := by
  unfold withP at h
  cases hf : l.find? (fun c => decide (c.id = x ∧ idOf c.p.zs = x)) with
  | none => rw [hf] at h; cases h
  | some c =>
    rw [hf] at h
    injection h with h
    have h1 := List.find?_some hf
    simp only [decide_eq_true_eq] at h1
    exact ⟨c, List.mem_of_find?_eq_some hf, h1.1, h, by rw [← h]; exact h1.2⟩
theorem RvA.lack (h : RvA cs ids k had) (hk : k < ids.length) (hx : haveC cs ids[k] = none) : RvA cs ids (k + 1) had := by
  refine ⟨fun c hc => ⟨(h.a c hc).1, ?_⟩, fun y hy hn => ?_, Nat.le_succ_of_le h.n, h.cap⟩
  · rw [List.take_succ_eq_append_getElem hk]; exact List.mem_append_left _ (h.a c hc).2
  · rw [List.take_succ_eq_append_getElem hk] at hy
    rcases List.mem_append.1 hy with hy | hy
    · exact h.b y hy hn
    · rw [List.mem_singleton.1 hy] at hn; exact absurd hx hn
theorem RvA.again (h : RvA cs ids k had) (hk : k < ids.length) {p : Part} (hx : withP had ids[k] = some p) : RvA cs ids (k + 1) had := by
  refine ⟨fun c hc => ⟨(h.a c hc).1, ?_⟩, fun y hy hn => ?_, Nat.le_succ_of_le h.n, h.cap⟩
  · rw [List.take_succ_eq_append_getElem hk]; exact List.mem_append_left _ (h.a c hc).2
  · rw [List.take_succ_eq_append_getElem hk] at hy
    rcases List.mem_append.1 hy with hy | hy
    · exact h.b y hy hn
    · obtain ⟨c, hc, e, _⟩ := withP_mem hx
      exact ⟨c, hc, by rw [e, List.mem_singleton.1 hy]⟩
theorem RvA.add (h : RvA cs ids k had) (hk : k < ids.length) {x : IdZ} {p : Part} (he : ids[k] = x) (hx : haveC cs x = some p.zs) (hq : p.zs.length ≤ p.cap) : RvA cs ids (k + 1) (had ++ [⟨x, p⟩]) := by
  subst he
  refine ⟨fun c hc => ?_, fun y hy hn => ?_, by rw [List.length_append]; exact Nat.succ_le_succ h.n, fun c hc => (List.mem_append.1 hc).elim (h.cap c) (fun e => by rw [List.mem_singleton.1 e]; exact hq)⟩
  · rw [List.take_succ_eq_append_getElem hk]
    rcases List.mem_append.1 hc with hc | hc
    · exact ⟨(h.a c hc).1, List.mem_append_left _ (h.a c hc).2⟩
    · rw [List.mem_singleton.1 hc]; exact ⟨hx, List.mem_append_right _ (List.mem_singleton.2 rfl)⟩
  · rw [List.take_succ_eq_append_getElem hk] at hy
    rcases List.mem_append.1 hy with hy | hy
    · obtain ⟨c, hc, e⟩ := h.b y hy hn
      exact ⟨c, List.mem_append_left _ hc, e⟩
    · exact ⟨_, List.mem_append_right _ (List.mem_singleton.2 rfl), (List.mem_singleton.1 hy).symm⟩
theorem RvA.okR (h : RvA cs ids (k + 1) had) (hk : k < ids.length) {n : Nat} : okR ⟨n, ids, had, [], pre⟩ ids[k] = (haveC cs ids[k]).isSome := by
  have e2 : withP ([] : List ChZ) ids[k] = none := rfl
  unfold Go.Proofs.Ytpoiejgoongllaa.okR
  simp only [e2, Option.isSome_none, Bool.or_false]
  cases hw : withP had ids[k] with
  | some p =>
    obtain ⟨c, hc, e, e3, _⟩ := withP_mem hw
    have := (h.a c hc).1
    rw [e] at this
    rw [this]; rfl
  | none =>
    cases hh : haveC cs ids[k] with
    | none => rfl
    | some zs =>
      obtain ⟨c, hc, e⟩ := h.b ids[k] (by rw [List.take_succ_eq_append_getElem hk]; exact List.mem_append_right _ (List.mem_singleton.2 rfl)) (by rw [hh]; simp)
      exact absurd e (h.withNone hw c hc)
theorem mem_lackH {l : List IdZ} {x : IdZ} : x ∈ lackH cs l ↔ x ∈ l ∧ haveC cs x = none := by
  unfold lackH
  rw [List.mem_filter]
  cases haveC cs x <;> simp
theorem RvC.skip (h : RvC cs ids k pre) (hk : k < ids.length) (hf : (haveC cs ids[k]).isSome = true ∨ ids[k] ∈ pre.map ChZ.id) : RvC cs ids (k + 1) pre := by
  refine ⟨?_, h.z, Nat.le_succ_of_le h.n⟩
  rw [missL_take hk, h.c]
  by_cases e : ids[k] ∈ ([] : List IdZ) ∨ ids[k] ∈ missL [] (ids.take k)
  · rw [if_pos e]
  · rw [if_neg e]
    have hs : (haveC cs ids[k]).isSome = true := by
      rcases hf with h1 | h1
      · exact h1
      · rw [h.c] at h1; exact absurd (.inr (mem_lackH.1 h1).1) e
    unfold lackH
    rw [List.filter_append, List.filter_cons]
    cases hh : haveC cs ids[k] with
    | none => rw [hh] at hs; cases hs
    | some z => simp [hh]
theorem RvC.add (h : RvC cs ids k pre) (hk : k < ids.length) {x : IdZ} (he : ids[k] = x) (hx : haveC cs x = none) (hp : x ∉ pre.map ChZ.id) : RvC cs ids (k + 1) (pre ++ [⟨x, ⟨none, 0, []⟩⟩]) := by
  subst he
  refine ⟨?_, fun c hc => ?_, by rw [List.length_append]; exact Nat.succ_le_succ h.n⟩
  · rw [missL_take hk, List.map_append, h.c]
    have e : ¬ (ids[k] ∈ ([] : List IdZ) ∨ ids[k] ∈ missL [] (ids.take k)) := by
      rintro (e | e)
      · cases e
      · exact hp (by rw [h.c]; exact mem_lackH.2 ⟨e, hx⟩)
    rw [if_neg e]
    unfold lackH
    rw [List.filter_append, List.filter_cons]
    simp [hx]
  · rcases List.mem_append.1 hc with hc | hc
    · exact h.z c hc
    · rw [List.mem_singleton.1 hc]
theorem rv_refOf {n : Nat} (hc : chkM (n : Int) ids = 0) (h : RvA cs ids ids.length had) (k : RvC cs ids ids.length pre) : RefOf ⟨n, ids, had, [], pre⟩ (recvR n ids cs) := by
  have hl := (chkM_zero hc).1
  have ha := h.a; have hb := h.b; have kc := k.c
  rw [List.take_length] at ha hb kc
  refine ⟨rfl, rfl, kc, fun c hc => by rw [k.z c hc]; rfl, rfl, fun c hc => ?_, fun x hx hn => ?_, by have := h.n; simp only; omega, fun x hx => ?_⟩
  · rcases hc with hc | hc
    · refine ⟨?_, (ha c hc).2⟩
      show compH (missL [] ids) cs c.id = _
      unfold compH
      rw [if_pos ((mem_missL ids _).2 (ha c hc).2)]
      exact (ha c hc).1
    · cases hc
  · have h1 : haveC cs x ≠ none := fun e => hn (by show compH (missL [] ids) cs x = _; unfold compH; rw [e, ite_self])
    obtain ⟨c, hc, e⟩ := hb x hx h1
    exact ⟨c, .inl hc, e⟩
  · show compH (missL [] ids) cs x = _
    unfold compH
    rw [(mem_lackH.1 hx).2, ite_self]
end

/-- the receiver in the making: g its block, its two lists' rows from base on -/
structure RvSt (W : World) (base g n : Nat) (ai : Option Addr) (nid ci : Nat) (Ah : Option Addr) (ch : Nat) (Ap : Option Addr) (cp : Nat) (had pre : List ChZ) : Prop where
  blk : Blk W g 71 #[.int .i64 n, .slice ai nid ci, .slice Ah had.length ch, .slice none 0 0, .slice Ap pre.length cp]
  rh : W.ownsRow base 64 3 (.slice Ah had.length ch) had.length (chsC had)
  rp : W.ownsRow base 64 3 (.slice Ap pre.length cp) pre.length (chsC pre)
  dis : ∀ k, (Value.slice Ah had.length ch).ownBlock = some k → (Value.slice Ap pre.length cp).ownBlock ≠ some k
  tx : ∀ c ∈ had, Tx W base c.p
  gb : g < base
  sz : base ≤ W.heap.size
section
variable {W W2 : World} {base g n nid ci ch cp : Nat} {ai Ah Ap : Option Addr} {had pre : List ChZ}
theorem RvSt.of (h : RvSt W base g n ai nid ci Ah ch Ap cp had pre) (k : Grew W W2) : RvSt W2 base g n ai nid ci Ah ch Ap cp had pre :=
  ⟨h.blk.of k, own_below h.rh k, own_below h.rp k, h.dis, fun c hc => (h.tx c hc).of k, h.gb, Nat.le_trans h.sz k.size⟩
theorem RvSt.addHad (h : RvSt W base g n ai nid ci Ah ch Ap cp had pre) {A2 : Option Addr} {c2 : Nat} {x : IdZ} {p : Part} (hg : W.grownBy W2 (Value.slice Ah had.length ch).ownBlock)
    (ho : W2.ownsRow base 64 3 (.slice A2 (had.length + 1) c2) (had.length + 1) (chsC (had ++ [⟨x, p⟩])))
    (hv : (Value.slice A2 (had.length + 1) c2).ownBlock = (Value.slice Ah had.length ch).ownBlock ∨ (Value.slice A2 (had.length + 1) c2).ownBlock = some W.heap.size) (ht : Tx W base p) :
    RvSt (W2.setCell ⟨g, 2, none⟩ (.slice A2 (had.length + 1) c2)) base g n ai nid ci A2 c2 Ap cp (had ++ [⟨x, p⟩]) pre ∧ Ch (fun i => i = g ∨ (Value.slice Ah had.length ch).ownBlock = some i) W (W2.setCell ⟨g, 2, none⟩ (.slice A2 (had.length + 1) c2)) := by
  have hc1 := Ch.of_own hg
  have hgn : ∀ k, (Value.slice Ah had.length ch).ownBlock = some k → k ≠ g := fun k hk e => by have := own_lt h.rh k hk; have := h.gb; omega
  have hgn2 : ∀ k, (Value.slice Ap pre.length cp).ownBlock = some k → k ≠ g := fun k hk e => by have := own_lt h.rp k hk; have := h.gb; omega
  have b1 : Blk W2 g 71 _ := h.blk.ch hc1 (fun e => hgn g e rfl)
  have b2 := b1.set_ 2 (.slice A2 (had.length + 1) c2)
  have hc2 : Ch (At g) W2 (W2.setCell ⟨g, 2, none⟩ (.slice A2 (had.length + 1) c2)) := (Ch.refl (At g) W2).set_at 2 _
  have ht2 : ∀ q, Tx W base q → Tx (W2.setCell ⟨g, 2, none⟩ (.slice A2 (had.length + 1) c2)) base q := fun q hq =>
    (hq.ch hc1 (own_noBytes h.rh (by decide))).ch hc2 (blk_noBytes b1 (by decide))
  refine ⟨⟨?_, ?_, ?_, ?_, ?_, h.gb, ?_⟩, ?_⟩
  · rw [List.length_append]; exact b2
  · rw [List.length_append]
    exact own_ch ho hc2 (fun i hi e => by have h1 := own_lt ho i hi; have h2 : i = g := e; have := h.gb; omega)
  · exact own_ch (own_ch h.rp hc1 (fun i hi e => h.dis i e hi)) hc2 (fun i hi e => hgn2 i hi e)
  · intro k hk
    rw [List.length_append] at hk
    rcases hv with e | e
    · rw [show (had.length + [(⟨x, p⟩ : ChZ)].length) = had.length + 1 from rfl, e] at hk; exact h.dis k hk
    · rw [show (had.length + [(⟨x, p⟩ : ChZ)].length) = had.length + 1 from rfl, e] at hk
      injection hk with hk
      intro h9
      have := (h.rp.lt k h9).2
      omega
  · intro c hc
    rcases List.mem_append.1 hc with hc | hc
    · exact ht2 _ (h.tx c hc)
    · rw [List.mem_singleton.1 hc]; exact ht2 _ ht
  · exact Nat.le_trans (Nat.le_trans h.sz hc1.size) hc2.size
  · exact (hc1.mono (fun k _ hk => .inr hk)).trans (hc2.mono (fun k _ hk => .inl hk))
theorem RvSt.addPre (h : RvSt W base g n ai nid ci Ah ch Ap cp had pre) {A2 : Option Addr} {c2 : Nat} {x : IdZ} (hg : W.grownBy W2 (Value.slice Ap pre.length cp).ownBlock)
    (ho : W2.ownsRow base 64 3 (.slice A2 (pre.length + 1) c2) (pre.length + 1) (chsC (pre ++ [⟨x, ⟨none, 0, []⟩⟩])))
    (hv : (Value.slice A2 (pre.length + 1) c2).ownBlock = (Value.slice Ap pre.length cp).ownBlock ∨ (Value.slice A2 (pre.length + 1) c2).ownBlock = some W.heap.size) :
    RvSt (W2.setCell ⟨g, 4, none⟩ (.slice A2 (pre.length + 1) c2)) base g n ai nid ci Ah ch A2 c2 had (pre ++ [⟨x, ⟨none, 0, []⟩⟩]) ∧ Ch (fun i => i = g ∨ (Value.slice Ap pre.length cp).ownBlock = some i) W (W2.setCell ⟨g, 4, none⟩ (.slice A2 (pre.length + 1) c2)) := by
  have hc1 := Ch.of_own hg
  have hgn : ∀ k, (Value.slice Ap pre.length cp).ownBlock = some k → k ≠ g := fun k hk e => by have := own_lt h.rp k hk; have := h.gb; omega
  have hgn2 : ∀ k, (Value.slice Ah had.length ch).ownBlock = some k → k ≠ g := fun k hk e => by have := own_lt h.rh k hk; have := h.gb; omega
  have b1 : Blk W2 g 71 _ := h.blk.ch hc1 (fun e => hgn g e rfl)
  have b2 := b1.set_ 4 (.slice A2 (pre.length + 1) c2)
  have hc2 : Ch (At g) W2 (W2.setCell ⟨g, 4, none⟩ (.slice A2 (pre.length + 1) c2)) := (Ch.refl (At g) W2).set_at 4 _
  have ht2 : ∀ q, Tx W base q → Tx (W2.setCell ⟨g, 4, none⟩ (.slice A2 (pre.length + 1) c2)) base q := fun q hq =>
    (hq.ch hc1 (own_noBytes h.rp (by decide))).ch hc2 (blk_noBytes b1 (by decide))
  refine ⟨⟨?_, ?_, ?_, ?_, fun c hc => ht2 _ (h.tx c hc), h.gb, ?_⟩, ?_⟩
  · rw [List.length_append]; exact b2
  · exact own_ch (own_ch h.rh hc1 (fun i hi e => h.dis i hi e)) hc2 (fun i hi e => hgn2 i hi e)
  · rw [List.length_append]
    exact own_ch ho hc2 (fun i hi e => by have h1 := own_lt ho i hi; have h2 : i = g := e; have := h.gb; omega)
  · intro k hk hk2
    rw [List.length_append] at hk2
    rcases hv with e | e
    · rw [show (pre.length + [(⟨x, ⟨none, 0, []⟩⟩ : ChZ)].length) = pre.length + 1 from rfl, e] at hk2; exact h.dis k hk hk2
    · rw [show (pre.length + [(⟨x, ⟨none, 0, []⟩⟩ : ChZ)].length) = pre.length + 1 from rfl, e] at hk2
      injection hk2 with hk2
      have := (h.rh.lt k hk).2
      omega
  · exact Nat.le_trans (Nat.le_trans h.sz hc1.size) hc2.size
  · exact (hc1.mono (fun k _ hk => .inr hk)).trans (hc2.mono (fun k _ hk => .inl hk))
theorem tx_at {w : World} {b n : Nat} {p : Part} (h : Tx w b p) (hb : n ≤ b) (hz : p.zs ≠ []) : AtD (fun i => n ≤ i) p.A := fun ad e => by
  rcases h with h | ⟨ad2, _, _, h1, h2, _⟩
  · exact absurd h hz
  · rw [e] at h1
    injection h1 with h1
    rw [h1]; exact Nat.le_trans hb h2
theorem RvSt.at_ (h : RvSt W base g n ai nid ci Ah ch Ap cp had pre) {ids : List IdZ} {cs : List ChZ} {k m : Nat} (ha : RvA cs ids k had) (hz : ∀ c ∈ pre, c.p = ⟨none, 0, []⟩) (hm : m ≤ base) {D : Nat → Prop} (hD : ids ≠ [] → AtD D ai) : RfAt (DnD D m) ⟨ai, ci, Ah, ch, none, 0, Ap, cp⟩ ⟨n, ids, had, [], pre⟩ where
  ids := fun e => (hD e).mono (fun _ => .inl)
  had := fun _ => (own_at h.rh hm).mono (fun _ => .inr)
  got := fun e => absurd rfl e
  pre := fun _ => (own_at h.rp hm).mono (fun _ => .inr)
  bts := fun c hc e => by
    rcases hc with hc | hc | hc
    · exact (tx_at (h.tx c hc) hm e).mono (fun _ => .inr)
    · cases hc
    · rw [hz c hc] at e; exact absurd rfl e
  cap := fun c hc => by
    rcases hc with hc | hc | hc
    · exact ha.cap c hc
    · cases hc
    · rw [hz c hc]; exact Nat.le_refl _
theorem RvSt.rf (h : RvSt W base g n ai nid ci Ah ch Ap cp had pre) {ids : List IdZ} (hr : Row W W.heap.size ai (idsC ids)) (hz : ∀ c ∈ pre, c.p = ⟨none, 0, []⟩) : RfIs W ⟨ai, ci, Ah, ch, none, 0, Ap, cp⟩ ⟨n, ids, had, [], pre⟩ where
  rids := hr
  rhad := own_row h.rh
  rgot := Row.nil
  rpre := own_row h.rp
  lhad := fun c hc => (h.tx c hc).row
  lgot := fun c hc => (by cases hc)
  lpre := fun c hc => by rw [hz c hc]; exact Row.nil
end
end

/- RefRecv37:
  stockyardref37.Receive.
-/
section
set_option linter.unusedVariables false
set_option linter.unusedSimpArgs false
set_option linter.unnecessarySimpa false
open Go.RowKit
attribute [local go_sem ↓] Go.wp_at_zero Go.wp_at_succ

def rfZ : Value := .agg #[.int .i64 0, .slice none 0 0, .slice none 0 0, .slice none 0 0, .slice none 0 0]
def RefRecvRes (Ai : Option Addr) (n : Nat) (ids : List IdZ) (cs : List ChZ) (w : World) (e : Ending) (w' : World) : Prop :=
  Grew w w' ∧ if chkM (n : Int) ids = 0 then ∃ L R, e = .returned (.tuple #[rfV L R, .int .i64 0]) ∧ RfIs w' L R ∧ RefOf R (recvR n ids cs) ∧ (∀ D, (ids ≠ [] → AtD D Ai) → RfAt (DnD D w.heap.size) L R) else e = .returned (.tuple #[rfZ, .int .i64 (chkM (n : Int) ids)])
/-- found so far -/
def fndR (b : Bool) (pre : List ChZ) (x : IdZ) (j : Nat) : Bool := b || decide (x ∈ (pre.take j).map ChZ.id)
theorem fndR_zero (b : Bool) (pre : List ChZ) (x : IdZ) : fndR b pre x 0 = b := by unfold fndR; simp
theorem fndR_succ (b : Bool) {pre : List ChZ} (x : IdZ) {j : Nat} (h : j < pre.length) : fndR b pre x (j + 1) = (fndR b pre x j || decide (pre[j].id = x)) := by
  unfold fndR
  rw [List.take_succ_eq_append_getElem h, List.map_append]
  cases b with
  | true => simp
  | false =>
    simp only [Bool.false_or, List.map_cons, List.map_nil, List.mem_append, List.mem_singleton]
    rw [Bool.decide_or]
    congr 1
    exact decide_eq_decide.2 eq_comm
theorem fndR_end (b : Bool) (pre : List ChZ) (x : IdZ) : fndR b pre x pre.length = true ↔ b = true ∨ x ∈ pre.map ChZ.id := by
  unfold fndR; rw [List.take_length]; simp
theorem rv_rfOk {n : Nat} {ids : List IdZ} {cs had pre : List ChZ} {k : Nat} (hc : chkM (n : Int) ids = 0) (h : RvA cs ids k had) (hz : ∀ c ∈ pre, c.p = ⟨none, 0, []⟩) (hn : pre.length ≤ 1024) (hk : k ≤ ids.length) (hb : ∀ c ∈ cs, Byt c.p.zs) : RfOk ⟨n, ids, had, [], pre⟩ := by
  obtain ⟨h1, h2, h3, h4⟩ := chkM_zero hc
  have hl : ∀ c ∈ had, Byt c.p.zs ∧ c.p.zs.length ≤ 8192 := fun c hc => by
    obtain ⟨a1, a2⟩ := h.a c hc
    obtain ⟨b1, d, b2, b3, b4⟩ := haveC_ok a1
    refine ⟨by rw [← b4]; exact hb d b2, ?_⟩
    have h5 := List.all_eq_true.1 h2 _ (List.mem_of_mem_take a2)
    unfold okId at h5
    simp only [Bool.and_eq_true, decide_eq_true_eq] at h5
    have h6 : (c.p.zs.length : Int) = c.id.2 := congrArg Prod.snd b1
    omega
  refine ⟨fun c hc => ⟨(hl c hc).1, Nat.le_trans (hl c hc).2 (by omega)⟩, fun c hc => (by cases hc), fun c hc => by rw [hz c hc]; exact ⟨fun z hz => (by cases hz), by simp⟩, by simp only; omega, by have := h.n; simp only; omega, by simp, by simp only; omega⟩

theorem grown_next {W W1 W2 : World} {v : Value} (h : W.grownBy W1 v.ownBlock) (k : Grew W1 W2) : W.grownBy W2 v.ownBlock := by
  have c := (Ch.of_own h).next k
  exact ⟨c.os, c.tape, c.output, c.size, fun i hi hn => c.block i hi (fun e => hn e.symm)⟩
theorem RvSt.chLow {W W2 : World} {base g n nid ci ch cp z : Nat} {ai Ah Ap : Option Addr} {had pre : List ChZ} (h : RvSt W base g n ai nid ci Ah ch Ap cp had pre) (k : Ch (At z) W W2) (hz : z < g) (hn : NoBytes W (At z)) : RvSt W2 base g n ai nid ci Ah ch Ap cp had pre :=
  ⟨h.blk.ch k (fun e => by have e : g = z := e; omega), own_ch h.rh k (fun i hi e => by have := own_lt h.rh i hi; have := h.gb; have e : i = z := e; omega), own_ch h.rp k (fun i hi e => by have := own_lt h.rp i hi; have := h.gb; have e : i = z := e; omega), h.dis, fun c hc => (h.tx c hc).ch k hn, h.gb, Nat.le_trans h.sz k.size⟩

set_option maxRecDepth 100000 in
set_option maxHeartbeats 4000000 in
theorem refReceive37_any (n : Nat) (Ai : Option Addr) (ci : Nat) (ids : List IdZ) (Ac : Option Addr) (cc : Nat) (cs : List ChZ) (w : World) (hr : Row w w.heap.size Ai (idsC ids)) (hm : ids.length ≤ 9223372036854775807)
    (hrc : Row w w.heap.size Ac (chsC cs)) (hin : LieC w w.heap.size cs) (hcw : ∀ c ∈ cs, Byt c.p.zs ∧ c.p.zs.length ≤ 9223372036854775807) (hmc : cs.length ≤ 4611686018427387904) :
    Calls Try.prog 33 #[.agg #[.int .i64 n, .slice Ai ids.length ci], .slice Ac cs.length cc] w (RefRecvRes Ai n ids cs w) := by
  have g0 := grew_alloc w (.cells #[.int .i64 n, .slice Ai ids.length ci] 33)
  have kM := Blk.new w 33 #[.int .i64 n, .slice Ai ids.length ci]
  have s0 : (w.alloc (.cells #[.int .i64 n, .slice Ai ids.length ci] 33)).heap.size = w.heap.size + 1 := by simp
  generalize hwa : w.alloc (.cells #[.int .i64 n, .slice Ai ids.length ci] 33) = wa at *
  have g1 := grew_alloc wa (.cells #[.int .i64 0, .slice none 0 0, .slice none 0 0, .slice none 0 0, .slice none 0 0] 71)
  have kZ := Blk.new wa 71 #[.int .i64 0, .slice none 0 0, .slice none 0 0, .slice none 0 0, .slice none 0 0]
  have s1 : (wa.alloc (.cells #[.int .i64 0, .slice none 0 0, .slice none 0 0, .slice none 0 0, .slice none 0 0] 71)).heap.size = w.heap.size + 2 := by simp [s0]
  generalize hwb : wa.alloc (.cells #[.int .i64 0, .slice none 0 0, .slice none 0 0, .slice none 0 0, .slice none 0 0] 71) = wb at *
  rw [s0] at kZ
  have HG := Lib.hid (Grew.trans g0 g1)
  replace kM := kM.of g1
  have m0 := (kM.cell 0).trans (show _ = some (.int .i64 n) from rfl)
  have m1 := (kM.cell 1).trans (show _ = some (.slice Ai ids.length ci) from rfl)
  have HKM := Lib.hid kM
  have HKZ := Lib.hid kZ
  have HR := Lib.hid (fun W (hg : Grew w W) => (hr.up hg (Nat.le_refl _)))
  have HRC := Lib.hid (fun W (hg : Grew w W) => ((hrc.up hg (Nat.le_refl _)).more hg.size))
  have HIN := Lib.hid (fun W (hg : Grew w W) => (LieC.up hin hg))
  have HCw := Lib.hid hcw
  have HBy : Hid (∀ c ∈ cs, Byt c.p.zs) := Lib.hid (fun c hc => (hcw c hc).1)
  clear hr hrc hin hcw kM kZ g0 g1
  have HCC := Lib.hid (refCheck25_any (n : Int) Ai ci w.heap.size ids wb (HR.out wb HG.out) HG.out.size hm)
  go_enter Try.func33, Try.ntmps33
  go_wp2_with fail
  clear hwa hwb s0
  refine HCC.out.mono ?_
  clear HCC
  rintro e w2 ⟨rfl, hb⟩
  replace m0 := cell_up hb m0
  replace m1 := cell_up hb m1
  have HK2 := Lib.hid (HKZ.out.of hb)
  have HG2 := Lib.hid (Grew.trans HG.out hb)
  have hs2 : w.heap.size + 2 ≤ w2.heap.size := by have := hb.size; omega
  clear hb HKM HKZ HG
  by_cases hz : chkM (n : Int) ids = 0
  case neg =>
    have hne : (chkM (n : Int) ids != 0) = true := by rw [bne_iff_ne]; exact hz
    have HZn := Lib.hid hz
    clear hz
    generalize hch : chkM (n : Int) ids = er at *
    have HCh := Lib.hid hch
    clear hch
    have y0 := HK2.out.frozen 0
    have y1 := HK2.out.frozen 1
    have y2 := HK2.out.frozen 2
    have y3 := HK2.out.frozen 3
    have y4 := HK2.out.frozen 4
    have q0 := (HK2.out.cell 0).trans (show _ = some (.int .i64 0) from rfl)
    have q1 := (HK2.out.cell 1).trans (show _ = some (.slice none 0 0) from rfl)
    have q2 := (HK2.out.cell 2).trans (show _ = some (.slice none 0 0) from rfl)
    have q3 := (HK2.out.cell 3).trans (show _ = some (.slice none 0 0) from rfl)
    have q4 := (HK2.out.cell 4).trans (show _ = some (.slice none 0 0) from rfl)
    have HFz := Lib.hid (((((HK2.out.set_ 0 (.int .i64 0)).set_ 1 (.slice none 0 0)).set_ 2 (.slice none 0 0)).set_ 3 (.slice none 0 0)).set_ 4 (.slice none 0 0))
    have hCs : Ch (At (w.heap.size + 1)) w2 (((((w2.setCell ⟨w.heap.size + 1, 0, none⟩ (.int .i64 0)).setCell ⟨w.heap.size + 1, 1, none⟩ (.slice none 0 0)).setCell ⟨w.heap.size + 1, 2, none⟩ (.slice none 0 0)).setCell ⟨w.heap.size + 1, 3, none⟩ (.slice none 0 0)).setCell ⟨w.heap.size + 1, 4, none⟩ (.slice none 0 0)) :=
      (((((Ch.refl (At (w.heap.size + 1)) w2).set_at 0 _).set_at 1 _).set_at 2 _).set_at 3 _).set_at 4 _
    have HGz := Lib.hid (show Grew w _ from Below.trans (B := w.heap.size) HG2.out (hCs.below HG2.out.size (fun i hi => by have h : i = w.heap.size + 1 := hi; omega)))
    clear hCs
    go_wp2_with fail
    have f0 := (HFz.out.cell 0).trans (show _ = some (.int .i64 0) from rfl)
    have f1 := (HFz.out.cell 1).trans (show _ = some (.slice none 0 0) from rfl)
    have f2 := (HFz.out.cell 2).trans (show _ = some (.slice none 0 0) from rfl)
    have f3 := (HFz.out.cell 3).trans (show _ = some (.slice none 0 0) from rfl)
    have f4 := (HFz.out.cell 4).trans (show _ = some (.slice none 0 0) from rfl)
    refine bodyPost_ret (v := .tuple #[rfZ, .int .i64 er]) ?_ rfl ⟨HGz.out, by rw [HCh.out, if_neg HZn.out]⟩
    simp [results, Try.results33, go_sem, rfZ, f0, f1, f2, f3, f4]
  have HCk := Lib.hid hz
  have hl1 : ids.length ≤ 1024 := (chkM_zero hz).1
  have HN : Hid (ids.length ≤ 1024) := Lib.hid hl1
  rw [hz]
  clear hz
  have g3 := grew_alloc w2 (.cells #[.int .i64 n, .slice Ai ids.length ci, .slice none 0 0, .slice none 0 0, .slice none 0 0] 71)
  have kg := Blk.new w2 71 #[.int .i64 n, .slice Ai ids.length ci, .slice none 0 0, .slice none 0 0, .slice none 0 0]
  have s4 : (w2.alloc (.cells #[.int .i64 n, .slice Ai ids.length ci, .slice none 0 0, .slice none 0 0, .slice none 0 0] 71)).heap.size = w2.heap.size + 1 := by simp
  go_wp2_with fail
  generalize hw4 : w2.alloc (.cells #[.int .i64 n, .slice Ai ids.length ci, .slice none 0 0, .slice none 0 0, .slice none 0 0] 71) = w4 at *
  clear hw4
  have m1' := cell_up g3 m1
  have HSt0 : Hid (RvSt w4 w4.heap.size w2.heap.size n Ai ids.length ci none 0 none 0 [] []) := Lib.hid ⟨kg, World.ownsRow_nil _ _ _ _, World.ownsRow_nil _ _ _ _, fun k hk => (by cases hk), fun c hc => (by cases hc), by omega, Nat.le_refl _⟩
  have HG4 : Hid (Below w2.heap.size w2 w4) := Lib.hid g3
  clear g3 kg m0 m1'
  go_loopw [8] (fun i wr => ∃ (k : Nat) (Ah : Option Addr) (ch : Nat) (Ap : Option Addr) (cp : Nat) (had pre : List ChZ), k ≤ ids.length ∧ i = .int .i64 k ∧ Hid (RvSt wr w4.heap.size w2.heap.size n Ai ids.length ci Ah ch Ap cp had pre) ∧ Hid (RvA cs ids k had) ∧ Hid (RvC cs ids k pre) ∧ Hid (∀ c ∈ pre, c.p = ⟨none, 0, []⟩) ∧ Hid (Below w2.heap.size w2 wr)) (fun i _ => ids.length - (intOf i).toNat)
  case atStart => exact ⟨0, none, 0, none, 0, [], [], Nat.zero_le _, rfl, HSt0, Lib.hid RvA.nil, Lib.hid RvC.nil, Lib.hid (fun c hc => (by cases hc)), HG4⟩
  case round =>
    obtain ⟨k, Ah, ch, Ap, cp, had, pre, hk, rfl, HSt, HA, HC, HZ, HB⟩ := hrel
    have m1r := cell_up HB.out m1
    by_cases hlt : k < ids.length
    · obtain ⟨ad, hA, hbl, d0, d1⟩ := ids_at (HR.out _ (Grew.trans HG2.out HB.out)) hlt
      subst hA
      obtain ⟨⟨j1, j2⟩, hx⟩ : ∃ x, ids[k] = x := ⟨_, rfl⟩
      rw [hx] at d0 d1
      have HId := Lib.hid hx
      clear hx
      have hga := grew_alloc wr (.cells #[.int .u64 j1, .int .i64 j2] 53)
      have kX := Blk.new wr 53 #[.int .u64 j1, .int .i64 j2]
      have HSt5 := Lib.hid (HSt.out.of hga)
      have HB5 := Lib.hid (Below.trans (B := w2.heap.size) HB.out (hga.mono HB.out.size))
      have hgx : w2.heap.size < wr.heap.size := HSt.out.blk.lt
      have hos := HSt.out.sz
      have HNh : Hid (∀ i, (Value.slice Ah had.length ch).ownBlock = some i → i < wr.heap.size) := Lib.hid (fun i hi => (HSt.out.rh.lt i hi).2)
      have HNp : Hid (∀ i, (Value.slice Ap pre.length cp).ownBlock = some i → i < wr.heap.size) := Lib.hid (fun i hi => (HSt.out.rp.lt i hi).2)
      have x0 := (kX.cell 0).trans (show _ = some (.int .u64 j1) from rfl)
      have x1 := (kX.cell 1).trans (show _ = some (.int .i64 j2) from rfl)
      have r2 := (HSt5.out.blk.cell 2).trans (show _ = some (.slice Ah had.length ch) from rfl)
      have HOk := Lib.hid (rv_rfOk HCk.out HA.out HZ.out (Nat.le_trans HC.out.n (Nat.le_trans hk HN.out)) hk HBy.out)
      have hhl : had.length ≤ 4611686018427387904 := by have := HA.out.n; omega
      clear hga kX hos HSt HB
      go_wp2_with fail
      clear d0 d1 m1r r2
      generalize wr.alloc (.cells #[.int .u64 j1, .int .i64 j2] 53) = w5 at *
      generalize wr.heap.size = gx at *
      refine (with37_any Ah ch had (j1, j2) w5 (own_row HSt5.out.rh) (fun c hc => (HSt5.out.tx c hc).row) HOk.out.bhad.any hhl).mono ?_
      rintro e w6 ⟨rfl, hg6⟩
      replace x0 := cell_up hg6 x0
      replace x1 := cell_up hg6 x1
      have HSt6 := Lib.hid (HSt5.out.of hg6)
      have HB6 := Lib.hid (Below.trans (B := w2.heap.size) HB5.out (hg6.mono HB5.out.size))
      clear hg6 HSt5 HB5 hhl HOk
      generalize hb1 : (withP had (j1, j2)).isSome = b1
      have HW1 := Lib.hid hb1
      clear hb1
      generalize withV had (j1, j2) = v1
      go_wp2_with fail
      have HG6 := Lib.hid (Grew.trans HG2.out HB6.out)
      refine (with37_any Ac cc cs (j1, j2) w6 (HRC.out w6 HG6.out) (HIN.out w6 HG6.out) HCw.out hmc).mono ?_
      rintro e w7 ⟨rfl, hg7⟩
      replace x0 := cell_up hg7 x0
      replace x1 := cell_up hg7 x1
      have HSt7 := Lib.hid (HSt6.out.of hg7)
      have HB7 := Lib.hid (Below.trans (B := w2.heap.size) HB6.out (hg7.mono HB6.out.size))
      have HRi7 : Hid (Row w7 w7.heap.size (some ad) (idsC ids)) := Lib.hid ((HR.out _ (Grew.trans HG2.out HB7.out)).more (Grew.trans HG2.out HB7.out).size)
      clear hg7 HSt6 HB6 HG6
      generalize hb2 : (withP cs (j1, j2)).isSome = b2
      have HW2 := Lib.hid hb2
      clear hb2
      generalize hv2 : withV cs (j1, j2) = v2
      have HV2 := Lib.hid hv2
      clear hv2
      have HA0 := HA
      clear HA
      cases b1 with
      | true =>
        have HA : Hid (RvA cs ids (k + 1) had) := Lib.hid (by
          obtain ⟨p, hp⟩ := Option.isSome_iff_exists.1 HW1.out
          exact HA0.out.again hlt (p := p) (by rw [HId.out]; exact hp))
        clear HW1 HW2 HV2 HA0
        cases b2
        all_goals
          have HSt := HSt7
          have HB := HB7
          have HRi := HRi7
          have hrf := HSt.out.rf (ids := ids) HRi.out HZ.out
          have hbk := HSt.out.blk
          have r0 := (hbk.cell 0).trans (show _ = some (.int .i64 n) from rfl)
          have r1 := (hbk.cell 1).trans (show _ = some (.slice (some ad) ids.length ci) from rfl)
          have r2 := (hbk.cell 2).trans (show _ = some (.slice Ah had.length ch) from rfl)
          have r3 := (hbk.cell 3).trans (show _ = some (.slice none 0 0) from rfl)
          have r4 := (hbk.cell 4).trans (show _ = some (.slice Ap pre.length cp) from rfl)
          have HRf := Lib.hid hrf
          have HOk := Lib.hid (rv_rfOk HCk.out HA.out HZ.out (Nat.le_trans HC.out.n (Nat.le_trans hk HN.out)) hlt HBy.out)
          have hrp := HSt.out.rp
          have HRp := Lib.hid (own_row hrp)
          clear hrf hbk hrp HRi
          go_wp2_with fail
          refine (ok37_any ⟨(some ad), ci, Ah, ch, none, 0, Ap, cp⟩ ⟨n, ids, had, [], pre⟩ (j1, j2) _ HRf.out HOk.out).mono ?_
          rintro e w8 ⟨rfl, hg8⟩
          have HSt8 := Lib.hid (HSt.out.of hg8)
          have HB8 := Lib.hid (Below.trans (B := w2.heap.size) HB.out (hg8.mono HB.out.size))
          replace x0 := cell_up hg8 x0
          replace x1 := cell_up hg8 x1
          replace r4 := cell_up hg8 r4
          have HRp8 := Lib.hid (HRp.out.up hg8 (Nat.le_refl _))
          clear hg8 HSt HB HRf HOk HRp r0 r1 r2 r3
          have HOkR := Lib.hid (HA.out.okR (pre := pre) (n := n) hlt)
          have HOkR : Hid (okR ⟨n, ids, had, [], pre⟩ (j1, j2) = (haveC cs ids[k]).isSome) := Lib.hid (by rw [← HId.out]; exact HOkR.out)
          generalize okR ⟨n, ids, had, [], pre⟩ (j1, j2) = bo at *
          have hpl9 : pre.length ≤ 1024 := by have := HC.out.n; omega
          go_wp2_with fail
          go_loopw [14, 15] (fun s v wx => ∃ j : Nat, j ≤ pre.length ∧ v = .int .i64 j ∧ s = .bool (fndR bo pre (j1, j2) j) ∧ Drawn w8 wx) (fun _ v _ => pre.length - (intOf v).toNat)
          case atStart => exact ⟨0, Nat.zero_le _, rfl, by rw [fndR_zero], Drawn.refl _⟩
          case round =>
            obtain ⟨j, hj, rfl, rfl, hdr⟩ := hrel
            have x0' := (hdr.cell _).trans x0
            have x1' := (hdr.cell _).trans x1
            have r4' := (hdr.cell _).trans r4
            by_cases hlj : j < pre.length
            · obtain ⟨ae, hA, hbl', d0, d1, d2⟩ := chs_at (HRp8.out.keep (w' := wr) fun p _ => hdr.cell p) hlj
              subst hA
              have HF1 := Lib.hid (fndR_succ bo (j1, j2) hlj)
              generalize pre[j] = c at *
              obtain ⟨⟨y1, y2⟩, ⟨pA, pc, ys⟩⟩ := c
              simp only at d0 d1 d2 HF1
              cases hfb : fndR bo pre (j1, j2) j with
              | true =>
                have HF2 : Hid (fndR bo pre (j1, j2) (j + 1) = true) := Lib.hid (by rw [HF1.out, hfb]; rfl)
                clear hfb HF1
                go_wp2_with fail
                go_quiet (fail)
                go_wp2
                go_roundw
                case rel => exact ⟨j + 1, by omega, by go_num, by rw [HF2.out], hdr.drewN _⟩
                case measure => simp [intOf]; omega
              | false =>
                by_cases he : ((y1, y2) : IdZ) = (j1, j2)
                · have HF2 : Hid (fndR bo pre (j1, j2) (j + 1) = true) := Lib.hid (by rw [HF1.out, hfb, he]; simp)
                  obtain ⟨rfl, rfl⟩ := Prod.mk.inj he
                  clear hfb HF1 he
                  go_wp2_with fail
                  go_quiet (fail)
                  go_wp2
                  go_roundw
                  case rel => exact ⟨j + 1, by omega, by go_num, by rw [HF2.out], hdr.drewN _⟩
                  case measure => simp [intOf]; omega
                · have HF2 : Hid (fndR bo pre (j1, j2) (j + 1) = false) := Lib.hid (by rw [HF1.out, hfb]; simp [he])
                  clear hfb HF1
                  rcases id_ne he with hne | ⟨rfl, hne⟩
                  all_goals
                    clear he
                    go_wp2_with fail
                    go_quiet (fail)
                    go_wp2
                    go_roundw
                    case rel => exact ⟨j + 1, by omega, by go_num, by rw [HF2.out], hdr.drewN _⟩
                    case measure => simp [intOf]; omega
            · obtain rfl : j = pre.length := by omega
              have HFe := Lib.hid (fndR_end bo pre (j1, j2))
              cases hfb : fndR bo pre (j1, j2) pre.length with
              | true =>
                have HC2 := Lib.hid (HC.out.skip hlt (by
                  have h9 := HFe.out.1 hfb
                  rw [HId.out]
                  rcases h9 with h9 | h9
                  · left; rw [← HId.out, ← HOkR.out]; exact h9
                  · right; exact h9))
                have HSt9 := Lib.hid (HSt8.out.of (grew_drawn hdr))
                have HB9 := Lib.hid (Below.trans (B := w2.heap.size) HB8.out ((grew_drawn hdr).mono HB8.out.size))
                clear hfb HFe HOkR x0' x1' hdr
                go_wp2_with fail
                go_roundw
                case rel => exact ⟨k + 1, Ah, ch, Ap, cp, had, pre, by omega, by go_num, HSt9, HA, HC2, HZ, HB9⟩
                case measure => simp [intOf]; omega
              | false =>
                have hnp : (j1, j2) ∉ pre.map ChZ.id ∧ haveC cs ids[k] = none := by
                  have h1 : bo = false := by cases hbo : bo with | false => rfl | true => exact absurd (HFe.out.2 (.inl hbo)) (by rw [hfb]; simp)
                  refine ⟨fun h => absurd (HFe.out.2 (.inr h)) (by rw [hfb]; simp), ?_⟩
                  have h2 := HOkR.out
                  rw [h1] at h2
                  cases hh : haveC cs ids[k] with
                  | none => rfl
                  | some z => rw [hh] at h2; cases h2
                have HC2 := Lib.hid (HC.out.add (x := (j1, j2)) hlt HId.out (by rw [← HId.out]; exact hnp.2) hnp.1)
                have HZ2 : Hid (∀ c ∈ pre ++ [(⟨(j1, j2), ⟨none, 0, []⟩⟩ : ChZ)], c.p = ⟨none, 0, []⟩) := Lib.hid (fun c hc => by
                  rcases List.mem_append.1 hc with hc | hc
                  · exact HZ.out c hc
                  · rw [List.mem_singleton.1 hc])
                have HSt9 := Lib.hid (HSt8.out.of (grew_drawn hdr))
                have HB9 := Lib.hid (Below.trans (B := w2.heap.size) HB8.out ((grew_drawn hdr).mono HB8.out.size))
                have HPl : Hid (pre.length ≤ 1024) := Lib.hid (by have := HC.out.n; have := HN.out; omega)
                clear hfb HFe HOkR hnp HSt8 HB8 r4 x0 x1 HRp8
                generalize wr = wz at *
                have hga := grew_alloc wz (.cells #[.int .u64 j1, .int .i64 j2, .slice none 0 0] 64)
                have HGA := Lib.hid hga
                have hown := own_below HSt9.out.rp hga
                have HV := Lib.hid (Blk.row (Blk.new wz 64 #[.int .u64 j1, .int .i64 j2, .slice none 0 0]))
                have hbs := Nat.le_trans HSt9.out.sz hga.size
                have hbk := HSt9.out.blk.of hga
                have hnb : ¬ (fun i => (Value.slice Ap pre.length cp).ownBlock = some i) w2.heap.size := fun h => by have := own_lt hown _ h; have := HSt9.out.gb; omega
                clear hdr hga
                go_upto_region 19 with (fail)
                go_wp2_with (at_builtin; go_loud (refine wpList_append_row rfl (.tmp 87) (.tmp 90) rfl w4.heap.size elem_chunk (by rfl) hown _ (by rfl) (by rfl) HV.out (by simp [Value.oneCell']) (by unfold maxLen; omega) (by omega) (by first | omega | exact hbs) ?_); intro A16 c16 w16 hown16 hg16 hor16; have hbw := hbk.ch (Ch.of_own hg16) hnb; have y4 := hbw.frozen 4; have b4' : _ = some (Value.slice Ap pre.length cp) := (hbw.cell 4))
                have HSa := Lib.hid (HSt9.out.of HGA.out)
                have HSb := Lib.hid (RvSt.addPre (x := (j1, j2)) (W2 := w16) (A2 := A16) (c2 := c16) HSa.out hg16 (by rw [chsC_append]; exact hown16) hor16)
                have HBz := Lib.hid (Below.trans (B := w2.heap.size) (Below.trans (B := w2.heap.size) HB9.out (HGA.out.mono HB9.out.size)) (HSb.out.2.below (Nat.le_trans HB9.out.size HGA.out.size) (fun i hi => by
                  rcases hi with rfl | hi
                  · exact Nat.le_refl _
                  · have h1 := own_lt hown i hi; have h2 := HSt9.out.gb; omega)))
                clear hbw hg16 hor16 hown16 hown r4' x0' x1' hnb HSt9 HB9 HSa hbk hbs HV HGA
                go_roundw
                case rel => exact ⟨k + 1, Ah, ch, A16, c16, had, pre ++ [⟨(j1, j2), ⟨none, 0, []⟩⟩], by omega, by go_num, Lib.hid HSb.out.1, HA, HC2, HZ2, HBz⟩
                case measure => simp [intOf]; omega
      | false =>
        cases b2 with
        | false =>
          have HA : Hid (RvA cs ids (k + 1) had) := Lib.hid (HA0.out.lack hlt (by
            rw [HId.out, ← withP_have]
            cases hq : withP cs (j1, j2) with
            | none => rfl
            | some q => have := HW2.out; rw [hq] at this; cases this))
          clear HW1 HW2 HV2 HA0
          have HSt := HSt7
          have HB := HB7
          have HRi := HRi7
          have hrf := HSt.out.rf (ids := ids) HRi.out HZ.out
          have hbk := HSt.out.blk
          have r0 := (hbk.cell 0).trans (show _ = some (.int .i64 n) from rfl)
          have r1 := (hbk.cell 1).trans (show _ = some (.slice (some ad) ids.length ci) from rfl)
          have r2 := (hbk.cell 2).trans (show _ = some (.slice Ah had.length ch) from rfl)
          have r3 := (hbk.cell 3).trans (show _ = some (.slice none 0 0) from rfl)
          have r4 := (hbk.cell 4).trans (show _ = some (.slice Ap pre.length cp) from rfl)
          have HRf := Lib.hid hrf
          have HOk := Lib.hid (rv_rfOk HCk.out HA.out HZ.out (Nat.le_trans HC.out.n (Nat.le_trans hk HN.out)) hlt HBy.out)
          have hrp := HSt.out.rp
          have HRp := Lib.hid (own_row hrp)
          clear hrf hbk hrp HRi
          go_wp2_with fail
          refine (ok37_any ⟨(some ad), ci, Ah, ch, none, 0, Ap, cp⟩ ⟨n, ids, had, [], pre⟩ (j1, j2) _ HRf.out HOk.out).mono ?_
          rintro e w8 ⟨rfl, hg8⟩
          have HSt8 := Lib.hid (HSt.out.of hg8)
          have HB8 := Lib.hid (Below.trans (B := w2.heap.size) HB.out (hg8.mono HB.out.size))
          replace x0 := cell_up hg8 x0
          replace x1 := cell_up hg8 x1
          replace r4 := cell_up hg8 r4
          have HRp8 := Lib.hid (HRp.out.up hg8 (Nat.le_refl _))
          clear hg8 HSt HB HRf HOk HRp r0 r1 r2 r3
          have HOkR := Lib.hid (HA.out.okR (pre := pre) (n := n) hlt)
          have HOkR : Hid (okR ⟨n, ids, had, [], pre⟩ (j1, j2) = (haveC cs ids[k]).isSome) := Lib.hid (by rw [← HId.out]; exact HOkR.out)
          generalize okR ⟨n, ids, had, [], pre⟩ (j1, j2) = bo at *
          have hpl9 : pre.length ≤ 1024 := by have := HC.out.n; omega
          go_wp2_with fail
          go_loopw [14, 15] (fun s v wx => ∃ j : Nat, j ≤ pre.length ∧ v = .int .i64 j ∧ s = .bool (fndR bo pre (j1, j2) j) ∧ Drawn w8 wx) (fun _ v _ => pre.length - (intOf v).toNat)
          case atStart => exact ⟨0, Nat.zero_le _, rfl, by rw [fndR_zero], Drawn.refl _⟩
          case round =>
            obtain ⟨j, hj, rfl, rfl, hdr⟩ := hrel
            have x0' := (hdr.cell _).trans x0
            have x1' := (hdr.cell _).trans x1
            have r4' := (hdr.cell _).trans r4
            by_cases hlj : j < pre.length
            · obtain ⟨ae, hA, hbl', d0, d1, d2⟩ := chs_at (HRp8.out.keep (w' := wr) fun p _ => hdr.cell p) hlj
              subst hA
              have HF1 := Lib.hid (fndR_succ bo (j1, j2) hlj)
              generalize pre[j] = c at *
              obtain ⟨⟨y1, y2⟩, ⟨pA, pc, ys⟩⟩ := c
              simp only at d0 d1 d2 HF1
              cases hfb : fndR bo pre (j1, j2) j with
              | true =>
                have HF2 : Hid (fndR bo pre (j1, j2) (j + 1) = true) := Lib.hid (by rw [HF1.out, hfb]; rfl)
                clear hfb HF1
                go_wp2_with fail
                go_quiet (fail)
                go_wp2
                go_roundw
                case rel => exact ⟨j + 1, by omega, by go_num, by rw [HF2.out], hdr.drewN _⟩
                case measure => simp [intOf]; omega
              | false =>
                by_cases he : ((y1, y2) : IdZ) = (j1, j2)
                · have HF2 : Hid (fndR bo pre (j1, j2) (j + 1) = true) := Lib.hid (by rw [HF1.out, hfb, he]; simp)
                  obtain ⟨rfl, rfl⟩ := Prod.mk.inj he
                  clear hfb HF1 he
                  go_wp2_with fail
                  go_quiet (fail)
                  go_wp2
                  go_roundw
                  case rel => exact ⟨j + 1, by omega, by go_num, by rw [HF2.out], hdr.drewN _⟩
                  case measure => simp [intOf]; omega
                · have HF2 : Hid (fndR bo pre (j1, j2) (j + 1) = false) := Lib.hid (by rw [HF1.out, hfb]; simp [he])
                  clear hfb HF1
                  rcases id_ne he with hne | ⟨rfl, hne⟩
                  all_goals
                    clear he
                    go_wp2_with fail
                    go_quiet (fail)
                    go_wp2
                    go_roundw
                    case rel => exact ⟨j + 1, by omega, by go_num, by rw [HF2.out], hdr.drewN _⟩
                    case measure => simp [intOf]; omega
            · obtain rfl : j = pre.length := by omega
              have HFe := Lib.hid (fndR_end bo pre (j1, j2))
              cases hfb : fndR bo pre (j1, j2) pre.length with
              | true =>
                have HC2 := Lib.hid (HC.out.skip hlt (by
                  have h9 := HFe.out.1 hfb
                  rw [HId.out]
                  rcases h9 with h9 | h9
                  · left; rw [← HId.out, ← HOkR.out]; exact h9
                  · right; exact h9))
                have HSt9 := Lib.hid (HSt8.out.of (grew_drawn hdr))
                have HB9 := Lib.hid (Below.trans (B := w2.heap.size) HB8.out ((grew_drawn hdr).mono HB8.out.size))
                clear hfb HFe HOkR x0' x1' hdr
                go_wp2_with fail
                go_roundw
                case rel => exact ⟨k + 1, Ah, ch, Ap, cp, had, pre, by omega, by go_num, HSt9, HA, HC2, HZ, HB9⟩
                case measure => simp [intOf]; omega
              | false =>
                have hnp : (j1, j2) ∉ pre.map ChZ.id ∧ haveC cs ids[k] = none := by
                  have h1 : bo = false := by cases hbo : bo with | false => rfl | true => exact absurd (HFe.out.2 (.inl hbo)) (by rw [hfb]; simp)
                  refine ⟨fun h => absurd (HFe.out.2 (.inr h)) (by rw [hfb]; simp), ?_⟩
                  have h2 := HOkR.out
                  rw [h1] at h2
                  cases hh : haveC cs ids[k] with
                  | none => rfl
                  | some z => rw [hh] at h2; cases h2
                have HC2 := Lib.hid (HC.out.add (x := (j1, j2)) hlt HId.out (by rw [← HId.out]; exact hnp.2) hnp.1)
                have HZ2 : Hid (∀ c ∈ pre ++ [(⟨(j1, j2), ⟨none, 0, []⟩⟩ : ChZ)], c.p = ⟨none, 0, []⟩) := Lib.hid (fun c hc => by
                  rcases List.mem_append.1 hc with hc | hc
                  · exact HZ.out c hc
                  · rw [List.mem_singleton.1 hc])
                have HSt9 := Lib.hid (HSt8.out.of (grew_drawn hdr))
                have HB9 := Lib.hid (Below.trans (B := w2.heap.size) HB8.out ((grew_drawn hdr).mono HB8.out.size))
                have HPl : Hid (pre.length ≤ 1024) := Lib.hid (by have := HC.out.n; have := HN.out; omega)
                clear hfb HFe HOkR hnp HSt8 HB8 r4 x0 x1 HRp8
                generalize wr = wz at *
                have hga := grew_alloc wz (.cells #[.int .u64 j1, .int .i64 j2, .slice none 0 0] 64)
                have HGA := Lib.hid hga
                have hown := own_below HSt9.out.rp hga
                have HV := Lib.hid (Blk.row (Blk.new wz 64 #[.int .u64 j1, .int .i64 j2, .slice none 0 0]))
                have hbs := Nat.le_trans HSt9.out.sz hga.size
                have hbk := HSt9.out.blk.of hga
                have hnb : ¬ (fun i => (Value.slice Ap pre.length cp).ownBlock = some i) w2.heap.size := fun h => by have := own_lt hown _ h; have := HSt9.out.gb; omega
                clear hdr hga
                go_upto_region 19 with (fail)
                go_wp2_with (at_builtin; go_loud (refine wpList_append_row rfl (.tmp 87) (.tmp 90) rfl w4.heap.size elem_chunk (by rfl) hown _ (by rfl) (by rfl) HV.out (by simp [Value.oneCell']) (by unfold maxLen; omega) (by omega) (by first | omega | exact hbs) ?_); intro A16 c16 w16 hown16 hg16 hor16; have hbw := hbk.ch (Ch.of_own hg16) hnb; have y4 := hbw.frozen 4; have b4' : _ = some (Value.slice Ap pre.length cp) := (hbw.cell 4))
                have HSa := Lib.hid (HSt9.out.of HGA.out)
                have HSb := Lib.hid (RvSt.addPre (x := (j1, j2)) (W2 := w16) (A2 := A16) (c2 := c16) HSa.out hg16 (by rw [chsC_append]; exact hown16) hor16)
                have HBz := Lib.hid (Below.trans (B := w2.heap.size) (Below.trans (B := w2.heap.size) HB9.out (HGA.out.mono HB9.out.size)) (HSb.out.2.below (Nat.le_trans HB9.out.size HGA.out.size) (fun i hi => by
                  rcases hi with rfl | hi
                  · exact Nat.le_refl _
                  · have h1 := own_lt hown i hi; have h2 := HSt9.out.gb; omega)))
                clear hbw hg16 hor16 hown16 hown r4' x0' x1' hnb HSt9 HB9 HSa hbk hbs HV HGA
                go_roundw
                case rel => exact ⟨k + 1, Ah, ch, A16, c16, had, pre ++ [⟨(j1, j2), ⟨none, 0, []⟩⟩], by omega, by go_num, Lib.hid HSb.out.1, HA, HC2, HZ2, HBz⟩
                case measure => simp [intOf]; omega
        | true =>
          obtain ⟨q, hq⟩ := Option.isSome_iff_exists.1 HW2.out
          obtain ⟨c, hc, hce, hcq, hcid⟩ := withP_mem hq
          have hv2 : withV cs (j1, j2) = .slice q.A q.zs.length q.cap := by unfold withV; rw [hq]; rfl
          have hhav : haveC cs (j1, j2) = some q.zs := by rw [← withP_have, hq]; rfl
          have HRq := Lib.hid (fun W (hg : Grew w W) => (by have h9 := HIN.out W hg c hc; rw [hcq] at h9; exact h9 : Row W W.heap.size q.A (q.zs.map (.int .u8))))
          have hql : q.zs.length ≤ 8192 := by
            have h5 := List.all_eq_true.1 (chkM_zero HCk.out).2.1 _ (List.getElem_mem hlt)
            rw [HId.out] at h5
            unfold okId at h5
            simp only [Bool.and_eq_true, decide_eq_true_eq] at h5
            have h6 : (q.zs.length : Int) = j2 := congrArg Prod.snd hcid
            omega
          have hv3 := HV2.out.symm.trans hv2
          clear HV2
          subst hv3
          have HHv := Lib.hid hhav
          have HHl : Hid (had.length ≤ 1024) := Lib.hid (by have := HA0.out.n; have := HN.out; omega)
          have HG7 := Lib.hid (Grew.trans HG2.out HB7.out)
          clear hq hc hce hcq hcid hv2 hhav
          obtain ⟨qA, qc, zs⟩ := q
          simp only at HRq hql HHv ⊢
          go_upto_region 12 with (fail)
          have hown := HSt7.out.rh
          have r2 := (HSt7.out.blk.cell 2).trans (show _ = some (.slice Ah had.length ch) from rfl)
          have hnb : ¬ (fun i => (Value.slice Ah had.length ch).ownBlock = some i) w2.heap.size := fun h => by have := own_lt hown _ h; have := HSt7.out.gb; omega
          have hnx : ¬ (fun i => (Value.slice Ah had.length ch).ownBlock = some i) gx := fun h => Nat.lt_irrefl _ (HNh.out _ h)
          refine wp_region_cls (Ch (fun i => (Value.slice Ah had.length ch).ownBlock = some i) w7) 8 (by kernel_rfl) ?_
          have hc0 := (Ch.refl (fun i => (Value.slice Ah had.length ch).ownBlock = some i) w7).drew
          refine AllC.head 0 4 (fuel := 6) (by first | exact fun h k => Grew.trans h k | exact fun h k => cls_grew h k) (hc0) (by rfl) (by kernel_rfl) ?_
          simp only [List.take_succ_cons, List.take_zero, List.drop_succ_cons, List.drop_zero]
          repeat (first
            | (refine HeadC.val (by rfl) ?_
               apply Exists.intro
               refine ⟨fun w' hw' => ?_, ?_⟩
               · (have hf_0 := hw'.cell r2 hnb; have hf_1 := hw'.cell x0 hnx; have hf_2 := hw'.cell x1 hnx; (go_simp) <;> (try go_ints) <;> with_reducible rfl)
               try simp only [Act.put, List.setIfInBounds_toArray, List.set_cons_zero, List.set_cons_succ])
            | (refine HeadC.shut (by rfl) ?_
               try simp only [Act.put, List.setIfInBounds_toArray, List.set_cons_zero, List.set_cons_succ]))
          refine HeadC.nil ?_
          refine AllC.one 4 (by kernel_rfl) rfl ?_
          intro wg hg K hK
          have hg1 : Grew w7 wg := (grew_drew w7).trans hg
          refine step_append_row rfl (.const (.slice none 0 0)) (.tmp 57) rfl wg.heap.size elem_u8 (by rfl) (World.ownsRow_nil _ _ _ _) _ (by rfl) (by rw [List.length_map]; omega) (HRq.out wg (Grew.trans HG7.out hg1)) (ones_u8 _) (by unfold maxLen; omega) (by omega) (Nat.le_refl _) ?_
          intro A2 k2 wA hown2 hg2 hv2
          rw [List.nil_append, Nat.zero_add] at hown2
          rw [Nat.zero_add]
          have hG2 : Grew w7 wA := hg1.trans (grewA_one hg2)
          have HCp : Hid (zs.length ≤ k2) := Lib.hid (own_cap hown2).1
          have HT2 : Hid (Tx wA w4.heap.size ⟨A2, k2, zs⟩) := Lib.hid ((Tx.own hown2).mono (Nat.le_trans HSt7.out.sz hg1.size))
          have hc1 : Ch (fun i => (Value.slice Ah had.length ch).ownBlock = some i) w7 wA := Ch.of_below hG2
          refine hK.out _ _ hc1 ?_
          clear hK K hg hg1 hg2 hv2 hown2 hc0
          try simp only [Act.put, List.setIfInBounds_toArray, List.set_cons_zero, List.set_cons_succ]
          refine AllC.head 5 1 (fuel := 4) (by first | exact fun h k => Grew.trans h k | exact fun h k => cls_grew h k) (hc1) (by rfl) (by kernel_rfl) ?_
          simp only [List.take_succ_cons, List.take_zero, List.drop_succ_cons, List.drop_zero]
          repeat (first
            | (refine HeadC.val (by rfl) ?_
               apply Exists.intro
               refine ⟨fun w' hw' => ?_, ?_⟩
               · ((go_simp) <;> (try go_ints) <;> with_reducible rfl)
               try simp only [Act.put, List.setIfInBounds_toArray, List.set_cons_zero, List.set_cons_succ])
            | (refine HeadC.shut (by rfl) ?_
               try simp only [Act.put, List.setIfInBounds_toArray, List.set_cons_zero, List.set_cons_succ]))
          refine HeadC.nil ?_
          refine AllC.one 6 (by kernel_rfl) rfl ?_
          intro wg hg K hK
          go_simp
          have hg0 := hG2.trans hg
          have hga := grew_alloc wg (.cells #[.int .u64 j1, .int .i64 j2, .slice A2 zs.length k2] 64)
          have hgA : Grew w7 (wg.alloc (.cells #[.int .u64 j1, .int .i64 j2, .slice A2 zs.length k2] 64)) := hg0.trans hga
          replace HT2 := Lib.hid (HT2.out.of (hg.trans hga))
          have hown7 := own_below hown hgA
          have hrow7 := Blk.row (Blk.new wg 64 #[.int .u64 j1, .int .i64 j2, .slice A2 zs.length k2])
          refine hK.out _ _ (Ch.of_below hgA) ?_
          clear hK K hg hc1 hga hg0 hG2
          try simp only [Act.put, List.setIfInBounds_toArray, List.set_cons_zero, List.set_cons_succ]
          generalize wg.alloc (.cells #[.int .u64 j1, .int .i64 j2, .slice A2 zs.length k2] 64) = w15 at *
          generalize wg.heap.size = g7 at *
          clear wg wA
          refine AllC.one 7 (by kernel_rfl) rfl ?_
          intro wg hg K hK
          have hgA8 := hgA.trans hg
          have hown8 := own_below hown7 hg
          have hrow8 := hrow7.up hg (Nat.le_refl _)
          have hbs := Nat.le_trans HSt7.out.sz hgA8.size
          have hpl := HHl.out
          replace HT2 := Lib.hid (HT2.out.of hg)
          refine step_append_row rfl (.tmp 55) (.tmp 60) rfl w4.heap.size elem_chunk (by rfl) hown8 _ (by rfl) (by rfl) hrow8 (by simp [Value.oneCell']) (by unfold maxLen; omega) (by omega) hbs ?_
          intro AH9 cH9 w16 hown16 hg16 hor16
          refine hK.out _ _ ((Ch.of_below hgA8).trans (Ch.of_own hg16)) ?_
          clear hK K hrow8 hown8 hrow7 hown7 hbs hpl
          try simp only [Act.put, List.setIfInBounds_toArray, List.set_cons_zero, List.set_cons_succ]
          refine AllC.tail 8 (by rfl) (by kernel_rfl) ?_
          intro wt hwt
          simp only [List.drop_succ_cons, List.drop_zero]
          have HSa := Lib.hid (HSt7.out.of hgA8)
          have HSb := Lib.hid (RvSt.addHad (x := (j1, j2)) (p := ⟨A2, k2, zs⟩) (W2 := wt) (A2 := AH9) (c2 := cH9) HSa.out (grown_next hg16 hwt) (own_below (by rw [chsC_append]; exact hown16) hwt) hor16 HT2.out)
          have hbw := (HSa.out.blk.ch ((Ch.of_own hg16).next hwt) hnb)
          have y2 := hbw.frozen 2
          have b2' := (hbw.cell 2).trans (show _ = some _ from rfl)
          have HBz : Hid (Below w2.heap.size w2 _) := Lib.hid (Below.trans (B := w2.heap.size) (Below.trans (B := w2.heap.size) HB7.out (hgA8.mono HB7.out.size)) (HSb.out.2.below (Nat.le_trans HB7.out.size hgA8.size) (fun i hi => by
            rcases hi with rfl | hi
            · exact Nat.le_refl _
            · have h1 := own_lt hown i hi; have h2 := HSt7.out.gb; omega)))
          have hxn : ∀ i, (i = w2.heap.size ∨ (Value.slice Ah had.length ch).ownBlock = some i) → i ≠ gx := fun i hi => by
            rcases hi with rfl | hi
            · omega
            · have h1 := HNh.out i hi; omega
          have HX0 := Lib.hid (HSb.out.2.cell (cell_up hgA8 x0) (fun h => hxn _ h rfl))
          have HX1 := Lib.hid (HSb.out.2.cell (cell_up hgA8 x1) (fun h => hxn _ h rfl))
          have HRi : Hid (Row _ _ (some ad) (idsC ids)) := Lib.hid ((HR.out _ (Grew.trans HG2.out HBz.out)).more (Grew.trans HG2.out HBz.out).size)
          have HA := Lib.hid (HA0.out.add (p := ⟨A2, k2, zs⟩) hlt HId.out HHv.out HCp.out)
          have HSt := Lib.hid HSb.out.1
          have HB := HBz
          have hlen : (had ++ [(⟨(j1, j2), ⟨A2, k2, zs⟩⟩ : ChZ)]).length = had.length + 1 := by rw [List.length_append]; rfl
          clear hbw hwt hgA hgA8 hg hg16 hor16 hown16 hown r2 hnb hnx hxn HSt7 HB7 HSa HT2 HA0 x0 x1
          go_upto_region 13 with (fail)
          have x0 := HX0.out
          have x1 := HX1.out
          clear HX0 HX1 y2 b2' hlen HHv HHl
          generalize had ++ [(⟨(j1, j2), ⟨A2, k2, zs⟩⟩ : ChZ)] = had2 at *
          generalize World.setCell _ _ _ = w9 at *
          have hrf := HSt.out.rf (ids := ids) HRi.out HZ.out
          have hbk := HSt.out.blk
          have r0 := (hbk.cell 0).trans (show _ = some (.int .i64 n) from rfl)
          have r1 := (hbk.cell 1).trans (show _ = some (.slice (some ad) ids.length ci) from rfl)
          have r2 := (hbk.cell 2).trans (show _ = some (.slice AH9 had2.length cH9) from rfl)
          have r3 := (hbk.cell 3).trans (show _ = some (.slice none 0 0) from rfl)
          have r4 := (hbk.cell 4).trans (show _ = some (.slice Ap pre.length cp) from rfl)
          have HRf := Lib.hid hrf
          have HOk := Lib.hid (rv_rfOk HCk.out HA.out HZ.out (Nat.le_trans HC.out.n (Nat.le_trans hk HN.out)) hlt HBy.out)
          have hrp := HSt.out.rp
          have HRp := Lib.hid (own_row hrp)
          clear hrf hbk hrp HRi
          go_wp2_with fail
          refine (ok37_any ⟨(some ad), ci, AH9, cH9, none, 0, Ap, cp⟩ ⟨n, ids, had2, [], pre⟩ (j1, j2) _ HRf.out HOk.out).mono ?_
          rintro e w8 ⟨rfl, hg8⟩
          have HSt8 := Lib.hid (HSt.out.of hg8)
          have HB8 := Lib.hid (Below.trans (B := w2.heap.size) HB.out (hg8.mono HB.out.size))
          replace x0 := cell_up hg8 x0
          replace x1 := cell_up hg8 x1
          replace r4 := cell_up hg8 r4
          have HRp8 := Lib.hid (HRp.out.up hg8 (Nat.le_refl _))
          clear hg8 HSt HB HRf HOk HRp r0 r1 r2 r3
          have HOkR := Lib.hid (HA.out.okR (pre := pre) (n := n) hlt)
          have HOkR : Hid (okR ⟨n, ids, had2, [], pre⟩ (j1, j2) = (haveC cs ids[k]).isSome) := Lib.hid (by rw [← HId.out]; exact HOkR.out)
          generalize okR ⟨n, ids, had2, [], pre⟩ (j1, j2) = bo at *
          have hpl9 : pre.length ≤ 1024 := by have := HC.out.n; omega
          go_wp2_with fail
          go_loopw [14, 15] (fun s v wx => ∃ j : Nat, j ≤ pre.length ∧ v = .int .i64 j ∧ s = .bool (fndR bo pre (j1, j2) j) ∧ Drawn w8 wx) (fun _ v _ => pre.length - (intOf v).toNat)
          case atStart => exact ⟨0, Nat.zero_le _, rfl, by rw [fndR_zero], Drawn.refl _⟩
          case round =>
            obtain ⟨j, hj, rfl, rfl, hdr⟩ := hrel
            have x0' := (hdr.cell _).trans x0
            have x1' := (hdr.cell _).trans x1
            have r4' := (hdr.cell _).trans r4
            by_cases hlj : j < pre.length
            · obtain ⟨ae, hA, hbl', d0, d1, d2⟩ := chs_at (HRp8.out.keep (w' := wr) fun p _ => hdr.cell p) hlj
              subst hA
              have HF1 := Lib.hid (fndR_succ bo (j1, j2) hlj)
              generalize pre[j] = c at *
              obtain ⟨⟨y1, y2⟩, ⟨pA, pc, ys⟩⟩ := c
              simp only at d0 d1 d2 HF1
              cases hfb : fndR bo pre (j1, j2) j with
              | true =>
                have HF2 : Hid (fndR bo pre (j1, j2) (j + 1) = true) := Lib.hid (by rw [HF1.out, hfb]; rfl)
                clear hfb HF1
                go_wp2_with fail
                go_quiet (fail)
                go_wp2
                go_roundw
                case rel => exact ⟨j + 1, by omega, by go_num, by rw [HF2.out], hdr.drewN _⟩
                case measure => simp [intOf]; omega
              | false =>
                by_cases he : ((y1, y2) : IdZ) = (j1, j2)
                · have HF2 : Hid (fndR bo pre (j1, j2) (j + 1) = true) := Lib.hid (by rw [HF1.out, hfb, he]; simp)
                  obtain ⟨rfl, rfl⟩ := Prod.mk.inj he
                  clear hfb HF1 he
                  go_wp2_with fail
                  go_quiet (fail)
                  go_wp2
                  go_roundw
                  case rel => exact ⟨j + 1, by omega, by go_num, by rw [HF2.out], hdr.drewN _⟩
                  case measure => simp [intOf]; omega
                · have HF2 : Hid (fndR bo pre (j1, j2) (j + 1) = false) := Lib.hid (by rw [HF1.out, hfb]; simp [he])
                  clear hfb HF1
                  rcases id_ne he with hne | ⟨rfl, hne⟩
                  all_goals
                    clear he
                    go_wp2_with fail
                    go_quiet (fail)
                    go_wp2
                    go_roundw
                    case rel => exact ⟨j + 1, by omega, by go_num, by rw [HF2.out], hdr.drewN _⟩
                    case measure => simp [intOf]; omega
            · obtain rfl : j = pre.length := by omega
              have HFe := Lib.hid (fndR_end bo pre (j1, j2))
              cases hfb : fndR bo pre (j1, j2) pre.length with
              | true =>
                have HC2 := Lib.hid (HC.out.skip hlt (by
                  have h9 := HFe.out.1 hfb
                  rw [HId.out]
                  rcases h9 with h9 | h9
                  · left; rw [← HId.out, ← HOkR.out]; exact h9
                  · right; exact h9))
                have HSt9 := Lib.hid (HSt8.out.of (grew_drawn hdr))
                have HB9 := Lib.hid (Below.trans (B := w2.heap.size) HB8.out ((grew_drawn hdr).mono HB8.out.size))
                clear hfb HFe HOkR x0' x1' hdr
                go_wp2_with fail
                go_roundw
                case rel => exact ⟨k + 1, AH9, cH9, Ap, cp, had2, pre, by omega, by go_num, HSt9, HA, HC2, HZ, HB9⟩
                case measure => simp [intOf]; omega
              | false =>
                have hnp : (j1, j2) ∉ pre.map ChZ.id ∧ haveC cs ids[k] = none := by
                  have h1 : bo = false := by cases hbo : bo with | false => rfl | true => exact absurd (HFe.out.2 (.inl hbo)) (by rw [hfb]; simp)
                  refine ⟨fun h => absurd (HFe.out.2 (.inr h)) (by rw [hfb]; simp), ?_⟩
                  have h2 := HOkR.out
                  rw [h1] at h2
                  cases hh : haveC cs ids[k] with
                  | none => rfl
                  | some z => rw [hh] at h2; cases h2
                have HC2 := Lib.hid (HC.out.add (x := (j1, j2)) hlt HId.out (by rw [← HId.out]; exact hnp.2) hnp.1)
                have HZ2 : Hid (∀ c ∈ pre ++ [(⟨(j1, j2), ⟨none, 0, []⟩⟩ : ChZ)], c.p = ⟨none, 0, []⟩) := Lib.hid (fun c hc => by
                  rcases List.mem_append.1 hc with hc | hc
                  · exact HZ.out c hc
                  · rw [List.mem_singleton.1 hc])
                have HSt9 := Lib.hid (HSt8.out.of (grew_drawn hdr))
                have HB9 := Lib.hid (Below.trans (B := w2.heap.size) HB8.out ((grew_drawn hdr).mono HB8.out.size))
                have HPl : Hid (pre.length ≤ 1024) := Lib.hid (by have := HC.out.n; have := HN.out; omega)
                clear hfb HFe HOkR hnp HSt8 HB8 r4 x0 x1 HRp8
                generalize wr = wz at *
                have hga := grew_alloc wz (.cells #[.int .u64 j1, .int .i64 j2, .slice none 0 0] 64)
                have HGA := Lib.hid hga
                have hown := own_below HSt9.out.rp hga
                have HV := Lib.hid (Blk.row (Blk.new wz 64 #[.int .u64 j1, .int .i64 j2, .slice none 0 0]))
                have hbs := Nat.le_trans HSt9.out.sz hga.size
                have hbk := HSt9.out.blk.of hga
                have hnb : ¬ (fun i => (Value.slice Ap pre.length cp).ownBlock = some i) w2.heap.size := fun h => by have := own_lt hown _ h; have := HSt9.out.gb; omega
                clear hdr hga
                go_upto_region 19 with (fail)
                go_wp2_with (at_builtin; go_loud (refine wpList_append_row rfl (.tmp 87) (.tmp 90) rfl w4.heap.size elem_chunk (by rfl) hown _ (by rfl) (by rfl) HV.out (by simp [Value.oneCell']) (by unfold maxLen; omega) (by omega) (by first | omega | exact hbs) ?_); intro A16 c16 w16 hown16 hg16 hor16; have hbw := hbk.ch (Ch.of_own hg16) hnb; have y4 := hbw.frozen 4; have b4' : _ = some (Value.slice Ap pre.length cp) := (hbw.cell 4))
                have HSa := Lib.hid (HSt9.out.of HGA.out)
                have HSb := Lib.hid (RvSt.addPre (x := (j1, j2)) (W2 := w16) (A2 := A16) (c2 := c16) HSa.out hg16 (by rw [chsC_append]; exact hown16) hor16)
                have HBz := Lib.hid (Below.trans (B := w2.heap.size) (Below.trans (B := w2.heap.size) HB9.out (HGA.out.mono HB9.out.size)) (HSb.out.2.below (Nat.le_trans HB9.out.size HGA.out.size) (fun i hi => by
                  rcases hi with rfl | hi
                  · exact Nat.le_refl _
                  · have h1 := own_lt hown i hi; have h2 := HSt9.out.gb; omega)))
                clear hbw hg16 hor16 hown16 hown r4' x0' x1' hnb HSt9 HB9 HSa hbk hbs HV HGA
                go_roundw
                case rel => exact ⟨k + 1, AH9, cH9, A16, c16, had2, pre ++ [⟨(j1, j2), ⟨none, 0, []⟩⟩], by omega, by go_num, Lib.hid HSb.out.1, HA, HC2, HZ2, HBz⟩
                case measure => simp [intOf]; omega
    · obtain rfl : k = ids.length := by omega
      have HRf := Lib.hid (rv_refOf HCk.out HA.out HC.out)
      have HAt : Hid (∀ D, (ids ≠ [] → AtD D Ai) → RfAt (DnD D w.heap.size) ⟨Ai, ci, Ah, ch, none, 0, Ap, cp⟩ ⟨n, ids, had, [], pre⟩) := Lib.hid (fun D hD => HSt.out.at_ HA.out HZ.out (by omega) hD)
      have hbk := HSt.out.blk
      have r0 := (hbk.cell 0).trans (show _ = some (.int .i64 n) from rfl)
      have r1 := (hbk.cell 1).trans (show _ = some (.slice Ai ids.length ci) from rfl)
      have r2 := (hbk.cell 2).trans (show _ = some (.slice Ah had.length ch) from rfl)
      have r3 := (hbk.cell 3).trans (show _ = some (.slice none 0 0) from rfl)
      have r4 := (hbk.cell 4).trans (show _ = some (.slice Ap pre.length cp) from rfl)
      have kr := HK2.out.of HB.out
      have y0 := kr.frozen 0
      have y1 := kr.frozen 1
      have y2 := kr.frozen 2
      have y3 := kr.frozen 3
      have y4 := kr.frozen 4
      have q0 := (kr.cell 0).trans (show _ = some (.int .i64 0) from rfl)
      have q1 := (kr.cell 1).trans (show _ = some (.slice none 0 0) from rfl)
      have q2 := (kr.cell 2).trans (show _ = some (.slice none 0 0) from rfl)
      have q3 := (kr.cell 3).trans (show _ = some (.slice none 0 0) from rfl)
      have q4 := (kr.cell 4).trans (show _ = some (.slice none 0 0) from rfl)
      have HFz := Lib.hid (((((kr.set_ 0 (.int .i64 n)).set_ 1 (.slice Ai ids.length ci)).set_ 2 (.slice Ah had.length ch)).set_ 3 (.slice none 0 0)).set_ 4 (.slice Ap pre.length cp))
      have hCs : Ch (At (w.heap.size + 1)) wr (((((wr.setCell ⟨w.heap.size + 1, 0, none⟩ (.int .i64 n)).setCell ⟨w.heap.size + 1, 1, none⟩ (.slice Ai ids.length ci)).setCell ⟨w.heap.size + 1, 2, none⟩ (.slice Ah had.length ch)).setCell ⟨w.heap.size + 1, 3, none⟩ (.slice none 0 0)).setCell ⟨w.heap.size + 1, 4, none⟩ (.slice Ap pre.length cp)) :=
        (((((Ch.refl (At (w.heap.size + 1)) wr).set_at 0 _).set_at 1 _).set_at 2 _).set_at 3 _).set_at 4 _
      have hGw := Grew.trans HG2.out HB.out
      have HGz := Lib.hid (show Grew w _ from Below.trans (B := w.heap.size) hGw (hCs.below hGw.size (fun i hi => by have h : i = w.heap.size + 1 := hi; omega)))
      have HIz := Lib.hid (RvSt.rf (ids := ids) (HSt.out.chLow hCs (by omega) (blk_noBytes kr (by decide))) ((HR.out _ HGz.out).more HGz.out.size) HZ.out)
      clear hCs kr hGw hbk
      go_wp2_with fail
      have f0 := (HFz.out.cell 0).trans (show _ = some (.int .i64 n) from rfl)
      have f1 := (HFz.out.cell 1).trans (show _ = some (.slice Ai ids.length ci) from rfl)
      have f2 := (HFz.out.cell 2).trans (show _ = some (.slice Ah had.length ch) from rfl)
      have f3 := (HFz.out.cell 3).trans (show _ = some (.slice none 0 0) from rfl)
      have f4 := (HFz.out.cell 4).trans (show _ = some (.slice Ap pre.length cp) from rfl)
      refine bodyPost_ret (v := .tuple #[rfV ⟨Ai, ci, Ah, ch, none, 0, Ap, cp⟩ ⟨n, ids, had, [], pre⟩, .int .i64 0]) ?_ rfl ⟨HGz.out, by rw [if_pos HCk.out]; exact ⟨_, _, rfl, HIz.out, HRf.out, HAt.out⟩⟩
      simp [results, Try.results33, go_sem, rfV, f0, f1, f2, f3, f4]
end

end Go.Proofs.Ytpoiejgoongllaa
