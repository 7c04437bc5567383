/-
  A reference's receiver holds what a receiver holds.
-/
import Derived.Test.YtpoiejgoongllaaRefDone37
import Derived.Test.YtpoiejgoongllaaRecv37
namespace Go.Proofs.Ytpoiejgoongllaa
set_option linter.unusedVariables false
set_option linter.unusedSimpArgs false
set_option linter.unnecessarySimpa false
open Go.RowKit

structure RefOf (R : RfR) (r : Rcv) : Prop where
  n : R.n = r.n
  ids : R.ids = r.ids
  pre : R.pre.map ChZ.id = r.miss
  pref : ∀ c ∈ R.pre, c.p.zs = r.pref c.id
  got : R.got.map ChZ.id = r.recv
  comp : ∀ c, c ∈ R.had ∨ c ∈ R.got → r.comp c.id = some c.p.zs ∧ c.id ∈ r.ids
  all : ∀ x ∈ r.ids, r.comp x ≠ none → ∃ c, (c ∈ R.had ∨ c ∈ R.got) ∧ c.id = x
  nhad : R.had.length ≤ 1024
  mno : ∀ x ∈ r.miss, r.comp x = none
section
variable {R : RfR} {r : Rcv}
theorem RefOf.clen (h : RefOf R r) (ok : RcOk r) {c : ChZ} (hc : c ∈ R.had ∨ c ∈ R.got) : Byt c.p.zs ∧ c.p.zs.length ≤ 8192 ∧ idOf c.p.zs = c.id := by
  obtain ⟨h1, h2⟩ := h.comp c hc
  obtain ⟨h3, h4⟩ := ok.comp _ _ h1
  have h5 := (ok.size h2).2
  have h6 : (c.p.zs.length : Int) = c.id.2 := congrArg Prod.snd h3
  exact ⟨h4, by omega, h3⟩
theorem RefOf.plen (h : RefOf R r) (ok : RcOk r) {c : ChZ} (hc : c ∈ R.pre) : Byt c.p.zs ∧ c.p.zs.length ≤ 8192 := by
  have e := h.pref c hc
  by_cases hp : r.pref c.id = []
  · rw [e, hp]; exact ⟨fun z hz => (by cases hz), by simp⟩
  · obtain ⟨p1, p2, p3⟩ := ok.pref _ hp
    have h5 := (ok.size (ok.sub _ p1)).2
    rw [e]; exact ⟨p3, by omega⟩
theorem RefOf.ok (h : RefOf R r) (ok : RcOk r) : RfOk R where
  bhad := fun c hc => by obtain ⟨h1, h2, _⟩ := h.clen ok (.inl hc); exact ⟨h1, by omega⟩
  bgot := fun c hc => by obtain ⟨h1, h2, _⟩ := h.clen ok (.inr hc); exact ⟨h1, by omega⟩
  bpre := fun c hc => by obtain ⟨h1, h2⟩ := h.plen ok hc; exact ⟨h1, by omega⟩
  nids := by rw [h.ids]; have := ok.len; omega
  nhad := by have := h.nhad; omega
  ngot := by have e := congrArg List.length h.got; rw [List.length_map] at e; have := ok.len; omega
  npre := by have e := congrArg List.length h.pre; rw [List.length_map] at e; have := ok.len; omega
theorem RefOf.lens (h : RefOf R r) (ok : RcOk r) : R.had.length ≤ 1024 ∧ R.got.length ≤ 1024 ∧ R.pre.length ≤ 1024 := by
  have e := congrArg List.length h.got; rw [List.length_map] at e
  have e2 := congrArg List.length h.pre; rw [List.length_map] at e2
  have := ok.len
  exact ⟨h.nhad, by omega, by omega⟩
theorem pre_other {l : List ChZ} {k j : Nat} {x : IdZ} (hn : (l.map ChZ.id).Nodup) (hk : k < l.length) (hx : l[k].id = x) (hj : j < l.length) (e : l[j].id = x) : j = k := by
  have h1 : (l.map ChZ.id)[j]'(by rw [List.length_map]; exact hj) = (l.map ChZ.id)[k]'(by rw [List.length_map]; exact hk) := by
    rw [List.getElem_map, List.getElem_map, e, hx]
  exact (List.getElem_inj hn).1 h1
theorem map_set_id {l : List ChZ} {k : Nat} {x : IdZ} (p : Part) (hk : k < l.length) (hx : l[k].id = x) : (l.set k ⟨x, p⟩).map ChZ.id = l.map ChZ.id := by
  rw [List.map_set]
  have : (l.map ChZ.id)[k]'(by rw [List.length_map]; exact hk) = x := by rw [List.getElem_map, hx]
  show (l.map ChZ.id).set k x = _
  conv => lhs; rw [← this]
  exact List.set_getElem_self _
/-- another prefix -/
theorem RefOf.setPre (h : RefOf R r) (ok : RcOk r) {k : Nat} {x : IdZ} (p : Part) (hk : k < R.pre.length) (hx : R.pre[k].id = x) :
    RefOf { R with pre := R.pre.set k ⟨x, p⟩ } { r with pref := updF r.pref x p.zs } where
  n := h.n
  ids := h.ids
  pre := (map_set_id p hk hx).trans h.pre
  pref := fun c hc => by
    obtain ⟨j, hj, rfl⟩ := List.getElem_of_mem hc
    have hj2 : j < R.pre.length := by simpa using hj
    simp only [List.getElem_set]
    by_cases e : k = j
    · rw [if_pos e]; simp [updF]
    · rw [if_neg e]
      have hne : R.pre[j].id ≠ x := fun e2 => e (pre_other (by rw [h.pre]; exact ok.nodup) hk hx hj2 e2).symm
      simp only [updF, if_neg hne]
      exact h.pref _ (List.getElem_mem hj2)
  got := h.got
  comp := h.comp
  all := h.all
  nhad := h.nhad
  mno := h.mno
theorem erase_at {l : List ChZ} {k : Nat} {x : IdZ} (hk : k < l.length) (hx : l[k].id = x) (hn : (l.map ChZ.id).Nodup) : (l.eraseIdx k).map ChZ.id = (l.map ChZ.id).erase x := by
  have hk2 : k < (l.map ChZ.id).length := by rw [List.length_map]; exact hk
  have h1 : (l.map ChZ.id)[k]'hk2 = x := by rw [List.getElem_map, hx]
  have h2 : (l.map ChZ.id).idxOf x = k := by
    have h3 := List.idxOf_lt_length_of_mem (a := x) (l := l.map ChZ.id) (by rw [← h1]; exact List.getElem_mem hk2)
    exact (List.getElem_inj hn).1 ((List.getElem_idxOf h3).trans h1.symm)
  rw [List.erase_eq_eraseIdx_of_idxOf h2, List.eraseIdx_eq_take_drop_succ, List.eraseIdx_eq_take_drop_succ, List.map_append, List.map_take, List.map_drop]
theorem RefOf.done (h : RefOf R r) (ok : RcOk r) {k : Nat} {x : IdZ} (p : Part) (hk : k < R.pre.length) (hx : R.pre[k].id = x) :
    RefOf { R with got := R.got ++ [⟨x, p⟩], pre := R.pre.eraseIdx k } { r with pref := updF r.pref x [], comp := updF r.comp x (some p.zs), miss := r.miss.erase x, recv := r.recv ++ [x] } := by
  have hnd : (R.pre.map ChZ.id).Nodup := by rw [h.pre]; exact ok.nodup
  have hxm : x ∈ r.miss := by rw [← h.pre, ← hx]; exact List.mem_map_of_mem (List.getElem_mem hk)
  have hxn := h.mno x hxm
  have hpe : (R.pre.eraseIdx k).map ChZ.id = r.miss.erase x := by rw [erase_at hk hx hnd, h.pre]
  have hold : ∀ c, c ∈ R.had ∨ c ∈ R.got → c.id ≠ x := fun c hc e => by
    have := (h.comp c hc).1
    rw [e, hxn] at this
    cases this
  refine ⟨h.n, h.ids, hpe, fun c hc => ?_, ?_, fun c hc => ?_, fun y hy hyc => ?_, h.nhad, fun y hy => ?_⟩
  · have hc2 := List.mem_of_mem_eraseIdx hc
    have hne : c.id ≠ x := ((List.Nodup.mem_erase_iff ok.nodup).1 (by rw [← hpe]; exact List.mem_map_of_mem hc)).1
    simp only [updF, if_neg hne]
    exact h.pref c hc2
  · simp only [List.map_append, h.got, List.map_cons, List.map_nil]
  · have hc' : (c ∈ R.had ∨ c ∈ R.got) ∨ c = ⟨x, p⟩ := by
      rcases hc with hc | hc
      · exact .inl (.inl hc)
      · rcases List.mem_append.1 hc with hc | hc
        · exact .inl (.inr hc)
        · exact .inr (List.mem_singleton.1 hc)
    rcases hc' with hc' | rfl
    · simp only [updF, if_neg (hold c hc')]
      exact h.comp c hc'
    · simp only [updF, if_true]
      exact ⟨trivial, ok.sub _ hxm⟩
  · by_cases e : y = x
    · subst e
      exact ⟨⟨y, p⟩, .inr (List.mem_append_right _ (List.mem_singleton.2 rfl)), rfl⟩
    · simp only [updF, if_neg e] at hyc
      obtain ⟨c, hc, hce⟩ := h.all y hy hyc
      exact ⟨c, hc.imp id (List.mem_append_left _), hce⟩
  · obtain ⟨h1, h2⟩ := (List.Nodup.mem_erase_iff ok.nodup).1 hy
    simp only [updF, if_neg h1]
    exact h.mno y h2
end
def AtD (D : Nat → Prop) (A : Option Addr) : Prop := ∀ ad, A = some ad → D ad.block
def DnD (D : Nat → Prop) (n : Nat) : Nat → Prop := fun i => D i ∨ n ≤ i
theorem AtD.mono {D E : Nat → Prop} {A : Option Addr} (h : AtD D A) (k : ∀ i, D i → E i) : AtD E A := fun ad e => k _ (h ad e)
theorem own_at {w : World} {base n : Nat} {e : TypeId} {s m c : Nat} {A : Option Addr} {xs : List Value} (h : w.ownsRow base e s (.slice A m c) m xs) (hb : n ≤ base) : AtD (fun i => n ≤ i) A := fun ad he => by
  subst he
  exact Nat.le_trans hb (own_lt h ad.block rfl)
/-- the blocks in which what a reference's receiver holds lies -/
structure RfAt (D : Nat → Prop) (L : RfL) (R : RfR) : Prop where
  ids : R.ids ≠ [] → AtD D L.ai
  had : R.had ≠ [] → AtD D L.ah
  got : R.got ≠ [] → AtD D L.ag
  pre : R.pre ≠ [] → AtD D L.ap
  bts : ∀ c, c ∈ R.had ∨ c ∈ R.got ∨ c ∈ R.pre → c.p.zs ≠ [] → AtD D c.p.A
  cap : ∀ c, c ∈ R.had ∨ c ∈ R.got ∨ c ∈ R.pre → c.p.zs.length ≤ c.p.cap
section
variable {D E : Nat → Prop} {L : RfL} {R : RfR} {n : Nat}
theorem RfAt.mono (h : RfAt D L R) (k : ∀ i, D i → E i) : RfAt E L R := ⟨fun e => (h.ids e).mono k, fun e => (h.had e).mono k, fun e => (h.got e).mono k, fun e => (h.pre e).mono k, fun c hc e => (h.bts c hc e).mono k, h.cap⟩
theorem RfAt.weak (h : RfAt D L R) (n : Nat) : RfAt (DnD D n) L R := h.mono (fun _ => .inl)
theorem RfAt.setPre (h : RfAt D L R) {A : Option Addr} {c k : Nat} {x : ChZ} (hA : AtD (fun i => n ≤ i) A) (hx : x.p.zs ≠ [] → AtD (fun i => n ≤ i) x.p.A) (hq : x.p.zs.length ≤ x.p.cap) : RfAt (DnD D n) { L with ap := A, cp := c } { R with pre := R.pre.set k x } where
  ids := fun e => (h.ids e).mono (fun _ => .inl)
  had := fun e => (h.had e).mono (fun _ => .inl)
  got := fun e => (h.got e).mono (fun _ => .inl)
  pre := fun _ => hA.mono (fun _ => .inr)
  bts := fun y hy e => by
    rcases hy with hy | hy | hy
    · exact (h.bts y (.inl hy) e).mono (fun _ => .inl)
    · exact (h.bts y (.inr (.inl hy)) e).mono (fun _ => .inl)
    · rcases List.mem_or_eq_of_mem_set hy with hy | rfl
      · exact (h.bts y (.inr (.inr hy)) e).mono (fun _ => .inl)
      · exact (hx e).mono (fun _ => .inr)
  cap := fun y hy => by
    rcases hy with hy | hy | hy
    · exact h.cap y (.inl hy)
    · exact h.cap y (.inr (.inl hy))
    · rcases List.mem_or_eq_of_mem_set hy with hy | rfl
      · exact h.cap y (.inr (.inr hy))
      · exact hq
theorem RfAt.done (h : RfAt D L R) {A B : Option Addr} {c d k : Nat} {x : ChZ} (hA : AtD (fun i => n ≤ i) A) (hB : AtD (fun i => n ≤ i) B) (hx : x.p.zs ≠ [] → AtD (fun i => n ≤ i) x.p.A) (hq : x.p.zs.length ≤ x.p.cap) : RfAt (DnD D n) { L with ag := B, cg := d, ap := A, cp := c } { R with got := R.got ++ [x], pre := R.pre.eraseIdx k } where
  ids := fun e => (h.ids e).mono (fun _ => .inl)
  had := fun e => (h.had e).mono (fun _ => .inl)
  got := fun _ => hB.mono (fun _ => .inr)
  pre := fun _ => hA.mono (fun _ => .inr)
  bts := fun y hy e => by
    rcases hy with hy | hy | hy
    · exact (h.bts y (.inl hy) e).mono (fun _ => .inl)
    · rcases List.mem_append.1 hy with hy | hy
      · exact (h.bts y (.inr (.inl hy)) e).mono (fun _ => .inl)
      · rw [List.mem_singleton.1 hy] at e ⊢; exact (hx e).mono (fun _ => .inr)
    · exact (h.bts y (.inr (.inr (List.mem_of_mem_eraseIdx hy))) e).mono (fun _ => .inl)
  cap := fun y hy => by
    rcases hy with hy | hy | hy
    · exact h.cap y (.inl hy)
    · rcases List.mem_append.1 hy with hy | hy
      · exact h.cap y (.inr (.inl hy))
      · rw [List.mem_singleton.1 hy]; exact hq
    · exact h.cap y (.inr (.inr (List.mem_of_mem_eraseIdx hy)))
theorem Row.chD {S : Nat → Prop} {w w' : World} {A : Option Addr} {xs : List Value} (h : Row w w.heap.size A xs) (ha : xs ≠ [] → AtD D A) (k : Ch S w w') (hS : ∀ i, S i → ¬ D i) : Row w' w'.heap.size A xs := by
  by_cases e : xs = []
  · rw [e]; exact Row.nil
  · exact (h.chA k (Nat.le_refl _) (fun ad he hs => hS _ hs (ha e ad he))).more k.size
/-- what changes is nothing in which it lies -/
theorem RfIs.ch {S : Nat → Prop} {w w' : World} (h : RfIs w L R) (ha : RfAt D L R) (k : Ch S w w') (hS : ∀ i, S i → ¬ D i) : RfIs w' L R where
  rids := h.rids.chD (fun e => ha.ids (fun e2 => e (by rw [e2]; rfl))) k hS
  rhad := h.rhad.chD (fun e => ha.had (fun e2 => e (by rw [e2]; rfl))) k hS
  rgot := h.rgot.chD (fun e => ha.got (fun e2 => e (by rw [e2]; rfl))) k hS
  rpre := h.rpre.chD (fun e => ha.pre (fun e2 => e (by rw [e2]; rfl))) k hS
  lhad := fun c hc => (h.lhad c hc).chD (fun e => ha.bts c (.inl hc) (fun e2 => e (by rw [e2]; rfl))) k hS
  lgot := fun c hc => (h.lgot c hc).chD (fun e => ha.bts c (.inr (.inl hc)) (fun e2 => e (by rw [e2]; rfl))) k hS
  lpre := fun c hc => (h.lpre c hc).chD (fun e => ha.bts c (.inr (.inr hc)) (fun e2 => e (by rw [e2]; rfl))) k hS
end
end Go.Proofs.Ytpoiejgoongllaa
