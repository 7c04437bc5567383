/-
  stockyardref37.of; the reference's receiver in its box: what goes on behind each step of a run.
-/
import Derived.Test.YtpoiejgoongllaaRefRv37
import Derived.Test.YtpoiejgoongllaaPkts37
import Derived.Test.YtpoiejgoongllaaRefTake37
namespace Go.Proofs.Ytpoiejgoongllaa
set_option linter.unusedVariables false
set_option linter.unusedSimpArgs false
set_option linter.unnecessarySimpa false
open Go.RowKit
attribute [local go_sem ↓] Go.wp_at_zero Go.wp_at_succ

/-- the bytes of the content, and their ID -/
theorem done_all {r : Rcv} (ok : RcOk r) (hm : r.miss = []) : (r.ids.map (cmpB r)).map idOf = r.ids := by
  apply List.ext_getElem (by simp)
  intro i h1 h2
  simp only [List.getElem_map]
  have hx := List.getElem_mem h2
  rcases ok.all _ hx with h | h
  · rw [hm] at h; cases h
  · cases hc : r.comp r.ids[i] with
    | none => exact absurd hc h
    | some zs => unfold cmpB; rw [hc]; exact (ok.comp _ _ hc).1
theorem done_flat (r : Rcv) : doneT r r.ids = (r.ids.map (cmpB r)).flatten := by unfold doneT; rw [List.flatMap_def]
theorem done_len {r : Rcv} (ok : RcOk r) (hm : r.miss = []) : ((doneT r r.ids).length : Int) = r.n := by
  have h1 := sumN_texts (r.ids.map (cmpB r))
  rw [done_all ok hm] at h1
  obtain ⟨_, _, h2, _⟩ := chkM_zero ok.chk
  rw [done_flat]; omega
theorem done_id {r : Rcv} (ok : RcOk r) (hm : r.miss = []) : idOf (doneT r r.ids) = whS r.ids := by
  have hl := done_len ok hm
  have hn := ok.len.2.1
  rw [done_flat] at hl ⊢
  have h := whS_flat (r.ids.map (cmpB r)) (by omega)
  rw [done_all ok hm] at h
  exact h.symm
section
variable {R : RfR} {r : Rcv}
theorem RefOf.true_ (h : RefOf R r) (ok : RcOk r) : TrueC (R.had ++ R.got) := fun c hc => by
  obtain ⟨h1, _⟩ := h.comp c (List.mem_append.1 hc)
  exact (ok.comp _ _ h1).1.symm
theorem RefOf.okC (h : RefOf R r) (ok : RcOk r) {D : Nat → Prop} {L : RfL} (ha : RfAt D L R) : OkC (R.had ++ R.got) := fun c hc => by
  have hc2 := List.mem_append.1 hc
  obtain ⟨h1, h2⟩ := h.comp c hc2
  obtain ⟨h3, h4, _⟩ := h.clen ok hc2
  exact ⟨ok.wf _ h2, h3, ha.cap c (hc2.imp id .inl), by omega⟩
theorem RefOf.done_ (h : RefOf R r) (ok : RcOk r) (hm : r.miss = []) : rfB R = doneT r r.ids := by
  have hall : ∀ x ∈ r.ids, ∃ c ∈ R.had ++ R.got, c.id = x := fun x hx => by
    rcases ok.all _ hx with h1 | h1
    · rw [hm] at h1; cases h1
    · obtain ⟨c, hc, e⟩ := h.all x hx h1
      exact ⟨c, List.mem_append.2 hc, e⟩
  have hf : ∀ x ∈ r.ids, (fndP (R.had ++ R.got) x).zs = cmpB r x := fun x hx => by
    have h0 : fndE (R.had ++ R.got) x = 0 := fnd_true (h.true_ ok) (hall x hx)
    obtain ⟨c, _, hc, hid, hp, _⟩ := fnd_len h0
    have hci : c.id = x := ((h.true_ ok) c hc).trans hid
    obtain ⟨h1, _⟩ := h.comp c (List.mem_append.1 hc)
    rw [hp]; unfold cmpB; rw [← hci, h1]; rfl
  obtain ⟨_, _, hs, hn⟩ := chkM_zero ok.chk
  have hsl : slE (r.n : Int) r.ids 0 r.n = 0 := by unfold slE; rw [if_pos ok.chk, if_neg (by omega)]
  have he : rangeE (R.had ++ R.got) (r.n : Int) r.ids 0 r.n = 0 := range_ok (h.true_ ok) hsl (fun p hp hlt => hall _ (List.getElem_mem hlt))
  have hl := done_len ok hm
  have hti := done_all ok hm
  have htl : (r.ids.map (cmpB r)).length = r.ids.length := List.length_map ..
  unfold rfB rangeB
  rw [h.n, h.ids, if_pos he, done_flat]
  rw [done_flat] at hl
  obtain ⟨ts, hts⟩ : ∃ ts, ts = r.ids.map (cmpB r) := ⟨_, rfl⟩
  rw [← hts] at hl hti htl ⊢
  have := rgB_sub (l := R.had ++ R.got) (ts := ts) (f := 0) (t := r.n) (fun i hi hp => by
    have e : idOf ts[i] = r.ids[i]'(by omega) := by
      have e := congrArg (fun x => x[i]?) hti
      simp only [List.getElem?_map, List.getElem?_eq_getElem hi, List.getElem?_eq_getElem (show i < r.ids.length by omega), Option.map_some, Option.some.injEq] at e
      exact e
    rw [e, hf _ (List.getElem_mem _)]
    simp only [hts, List.getElem_map]) ts.length (Nat.le_refl _)
  rw [hti, List.take_length, htl, subZ_whole (by omega)] at this
  exact this
theorem RefOf.ask_ (h : RefOf R r) (ok : RcOk r) {most : Int} {m : Nat} (hm : m ≤ R.pre.length) (hd : (m : Int) = most ∨ (most < 0 ∧ m = 0) ∨ (m = R.pre.length ∧ (R.pre.length : Int) ≤ most)) : (askP r (askL r most)).map Pk.z = (rfAsk R m).map Pk.z := by
  have hl : r.miss.length = R.pre.length := by rw [← h.pre, List.length_map]
  have hn : askN r most = m := by unfold askN; omega
  unfold askP askL rfAsk
  rw [hn, ← h.pre, ← List.map_take, List.map_map, List.map_map, List.map_map]
  apply List.map_congr_left
  intro c hc
  have hp := h.pref c (List.mem_of_mem_take hc)
  simp only [Function.comp, Pk.z, PkZ.mk.injEq, true_and, and_true]
  rw [← hp]
end
theorem idsC_nil {l : List IdZ} (h : idsC l = []) : l = [] := by
  cases l with
  | nil => rfl
  | cons x l => simp [idsC, idC] at h
theorem chsC_nil {l : List ChZ} (h : chsC l = []) : l = [] := by
  cases l with
  | nil => rfl
  | cons x l => simp [chsC, chC] at h
theorem AtD.lt {D : Nat → Prop} {A : Option Addr} {w : World} {xs : List Value} (h : AtD D A) (hr : Row w w.heap.size A xs) (hne : xs ≠ []) : AtD (fun i => i < w.heap.size ∧ D i) A := fun ad e => by
  rcases hr with hr | ⟨ad2, h1, h2, _⟩
  · exact absurd hr hne
  · rw [e] at h1; injection h1 with h1; subst h1; exact ⟨h2, h ad e⟩
section
variable {L : RfL} {R : RfR}
theorem RfAt.bound {D : Nat → Prop} {w : World} (h : RfAt D L R) (h1 : RfIs w L R) : RfAt (fun i => i < w.heap.size ∧ D i) L R :=
  ⟨fun e => (h.ids e).lt (h1.rids) (by intro e2; exact e (idsC_nil e2)), fun e => (h.had e).lt h1.rhad (by intro e2; exact e (chsC_nil e2)), fun e => (h.got e).lt h1.rgot (by intro e2; exact e (chsC_nil e2)), fun e => (h.pre e).lt h1.rpre (by intro e2; exact e (chsC_nil e2)),
    fun c hc e => (h.bts c hc e).lt (by rcases hc with hc | hc | hc; exact h1.lhad c hc; exact h1.lgot c hc; exact h1.lpre c hc) (by intro e2; exact e (List.map_eq_nil_iff.1 e2)), h.cap⟩
end
set_option maxHeartbeats 400000 in
theorem refOf37_any (A : Option Addr) (c B k : Nat) (fl : List Fts) (w : World) (hr : Row w B A (fl.map Fts.v)) (hl : fl.length ≤ 9223372036854775807) :
    Calls Try.prog 73 #[.slice A fl.length c, .int .i64 k] w fun e w' => e = .returned (.slice (ofP fl k).A (ofP fl k).fs.length (ofP fl k).cap) ∧ w = w' := by
  by_cases hk : k < fl.length
  · obtain ⟨ad, rfl, hb, d0⟩ := ftl_at hr hk
    have e : ofP fl k = fl[k] := by unfold ofP; rw [List.getD_eq_getElem?_getD, List.getElem?_eq_getElem hk]; rfl
    rw [e]
    generalize fl[k] = x at *
    have hkI : (k : Int) < (fl.length : Int) := by omega
    go_enter Try.func73, Try.ntmps73
    go_wp2_with fail
    go_ret
    exact ⟨rfl, rfl⟩
  · have e : ofP fl k = ftNo := by unfold ofP; rw [List.getD_eq_getElem?_getD, List.getElem?_eq_none (by omega)]; rfl
    rw [e]
    have hkI : (fl.length : Int) ≤ (k : Int) := by omega
    go_enter Try.func73, Try.ntmps73
    go_wp2_with fail
    go_ret
    exact ⟨rfl, rfl⟩
/-- requests as faults leave them -/
def AskZ (p : PkZ) : Prop := p.kind = 1 ∧ p.zs = [] ∧ WfI p.id ∧ 0 ≤ p.frm ∧ p.frm ≤ 1048576
theorem carryZ_ask {l : List PkZ} {fs : List FtZ} (h : ∀ p ∈ l, AskZ p) : ∀ p ∈ carryZ l fs, AskZ p := by
  induction fs generalizing l with
  | nil => exact h
  | cons f fs ih =>
    refine ih (l := strike l f) (fun p hp => ?_)
    rcases strike_mem hp with hp | ⟨x, hx, b, _, _, hb, rfl⟩
    · exact h p hp
    · have h0 := (h x hx).2.1
      rw [h0] at hb
      simp at hb
theorem askZ_ask {r : Rcv} (ok : RcOk r) : ∀ p ∈ askZ r, AskZ p := fun p hp => by
  unfold askZ at hp
  obtain ⟨x, hx, rfl⟩ := List.mem_map.1 hp
  refine ⟨rfl, rfl, ok.wf x (ok.sub x hx), by show (0 : Int) ≤ ((r.pref x).length : Int); omega, ?_⟩
  show ((r.pref x).length : Int) ≤ 1048576
  by_cases hp : r.pref x = []
  · rw [hp]; simp
  · have h1 := (ok.pref x hp).2.1
    have h2 := (ok.size (ok.sub _ (ok.pref x hp).1)).2
    omega
theorem RefOf.askAll {R : RfR} {r : Rcv} (h : RefOf R r) (ok : RcOk r) : (rfAsk R R.pre.length).map Pk.z = askZ r := by
  have h1 := h.ask_ ok (most := (R.pre.length : Int)) (Nat.le_refl _) (.inl rfl)
  have hl : r.miss.length = R.pre.length := by rw [← h.pre, List.length_map]
  have h2 : askL r (R.pre.length : Int) = r.miss := by
    unfold askL askN
    rw [List.take_of_length_le (by omega)]
  rw [← h1, h2, askZ_eq]
/-- the bytes of a text lie not in a box without bytes -/
theorem bt_at {w : World} {B g : Nat} {A : Option Addr} {zs : List Int} {t : TypeId} {cs : Array Value} (hr : Row w B A (zs.map (.int .u8))) (hz : zs ≠ []) (hb : Blk w g t cs) (hn : ∀ (i : Nat) (z : Int), cs[i]? ≠ some (Value.int .u8 z)) : AtD (fun i => i ≠ g) A := fun ad he hg => by
  rcases hr with h | ⟨ad2, h1, _, h3⟩
  · exact hz (List.map_eq_nil_iff.1 h)
  · rw [he] at h1
    injection h1 with h1
    subst h1
    have hl : 0 < zs.length := List.length_pos_iff.2 hz
    have h4 := h3 0 (by rw [List.length_map]; exact hl)
    rw [List.getElem?_map, List.getElem?_eq_getElem hl] at h4
    have e : ad.add 0 = ad := by unfold Addr.add; rw [if_pos rfl]
    rw [e] at h4
    unfold Blk at hb
    unfold World.cell? at h4
    rw [hg, hb] at h4
    simp only [Option.map_some] at h4
    split at h4
    · cases h4
    · exact hn _ _ h4
theorem box_no (R : RfR) (L : RfL) (i : Nat) (z : Int) : (#[.int .i64 R.n, .slice L.ai R.ids.length L.ci, .slice L.ah R.had.length L.ch, .slice L.ag R.got.length L.cg, .slice L.ap R.pre.length L.cp] : Array Value)[i]? ≠ some (Value.int .u8 z) := by
  match i with
  | 0 => simp
  | 1 => simp
  | 2 => simp
  | 3 => simp
  | 4 => simp
  | i + 5 => simp
/-- the box of the reference's receiver -/
structure BxSt (w0 W : World) (gR : Nat) (L : RfL) (R : RfR) (rr : Rcv) : Prop where
  box : Blk W gR 71 #[.int .i64 R.n, .slice L.ai R.ids.length L.ci, .slice L.ah R.had.length L.ch, .slice L.ag R.got.length L.cg, .slice L.ap R.pre.length L.cp]
  ref : RfIs W L R
  rel : RefOf R rr
  ok : RcOk rr
  at_ : RfAt (fun i => i < W.heap.size ∧ i ≠ gR) L R
  ch : Below w0.heap.size w0 W
  lo : w0.heap.size ≤ gR
section
variable {w0 W W' : World} {gR : Nat} {rr rr' : Rcv} {L L' : RfL} {R R' : RfR}
theorem BxSt.of (h : BxSt w0 W gR L R rr) (k : Grew W W') : BxSt w0 W' gR L R rr :=
  ⟨h.box.of k, h.ref.up k, h.rel, h.ok, h.at_.mono (fun i hi => ⟨Nat.lt_of_lt_of_le hi.1 k.size, hi.2⟩), Below.trans (B := w0.heap.size) h.ch (k.mono h.ch.size), h.lo⟩
theorem BxSt.put (h : BxSt w0 W gR L R rr) {W1 : World} (k : Grew W W1) (h1 : RfIs W1 L' R') (h2 : RefOf R' rr') (h3 : RcOk rr') (h4 : ∀ D, RfAt D L R → RfAt (DnD D W.heap.size) L' R') :
    BxSt w0 (((((W1.setCell ⟨gR, 0, none⟩ (.int .i64 R'.n)).setCell ⟨gR, 1, none⟩ (.slice L'.ai R'.ids.length L'.ci)).setCell ⟨gR, 2, none⟩ (.slice L'.ah R'.had.length L'.ch)).setCell ⟨gR, 3, none⟩ (.slice L'.ag R'.got.length L'.cg)).setCell ⟨gR, 4, none⟩ (.slice L'.ap R'.pre.length L'.cp)) gR L' R' rr' ∧
    Ch (At gR) W1 (((((W1.setCell ⟨gR, 0, none⟩ (.int .i64 R'.n)).setCell ⟨gR, 1, none⟩ (.slice L'.ai R'.ids.length L'.ci)).setCell ⟨gR, 2, none⟩ (.slice L'.ah R'.had.length L'.ch)).setCell ⟨gR, 3, none⟩ (.slice L'.ag R'.got.length L'.cg)).setCell ⟨gR, 4, none⟩ (.slice L'.ap R'.pre.length L'.cp)) := by
  have h5 := h.of k
  have hDl : RfAt (fun i => i < W1.heap.size ∧ i ≠ gR) L' R' := ((h4 _ h.at_).bound h1).mono (fun i hi => ⟨hi.1, by
    rcases hi.2 with hi | hi
    · exact hi.2
    · have := h.box.lt; omega⟩)
  have hB := (((((h5.box.set_ 0 (.int .i64 R'.n)).set_ 1 (.slice L'.ai R'.ids.length L'.ci)).set_ 2 (.slice L'.ah R'.had.length L'.ch)).set_ 3 (.slice L'.ag R'.got.length L'.cg)).set_ 4 (.slice L'.ap R'.pre.length L'.cp))
  have hc : Ch (At gR) W1 (((((W1.setCell ⟨gR, 0, none⟩ (.int .i64 R'.n)).setCell ⟨gR, 1, none⟩ (.slice L'.ai R'.ids.length L'.ci)).setCell ⟨gR, 2, none⟩ (.slice L'.ah R'.had.length L'.ch)).setCell ⟨gR, 3, none⟩ (.slice L'.ag R'.got.length L'.cg)).setCell ⟨gR, 4, none⟩ (.slice L'.ap R'.pre.length L'.cp)) :=
    (((((Ch.refl (At gR) W1).set_at 0 _).set_at 1 _).set_at 2 _).set_at 3 _).set_at 4 _
  refine ⟨⟨hB, h1.ch hDl hc (fun i e hi => hi.2 e), h2, h3, hDl.mono (fun i hi => ⟨Nat.lt_of_lt_of_le hi.1 hc.size, hi.2⟩), Below.trans (B := w0.heap.size) h5.ch (hc.below h5.ch.size (fun i e => by have e2 : i = gR := e; have := h.lo; omega)), h.lo⟩, hc⟩
end
end Go.Proofs.Ytpoiejgoongllaa
