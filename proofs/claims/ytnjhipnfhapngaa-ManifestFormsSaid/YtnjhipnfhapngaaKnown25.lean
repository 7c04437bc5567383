/-
  Shelf, ShelfB, Range, Leb, Enc25, Known25, Pre25.
-/
import Derived.Test.YtnjhipnfhapngaaIdz
import Derived.Test.YtnjhipnfhapngaaPieces
import Derived.Test.YtnjhipnfhapngaaSl25
import Derived.Laws.CopyOwn
namespace Go.Proofs.Ytnjhipnfhapngaa
/- Shelf:
  manifest.newShelf and shelf.bytes: the chunks at hand by their IDs.
-/
section
set_option linter.unusedVariables false
set_option linter.unusedSimpArgs false
set_option linter.unnecessarySimpa false
open Go.RowKit
attribute [local go_sem ↓] Go.wp_at_zero Go.wp_at_succ

/-- a chunk: its ID and its bytes -/
structure ChZ where
  id : IdZ
  p : Part
def chC (c : ChZ) : List Value := [.int .u64 c.id.1, .int .i64 c.id.2, c.p.v]
def chsC (l : List ChZ) : List Value := l.flatMap chC
theorem chsC_len (l : List ChZ) : (chsC l).length = l.length * 3 := by
  induction l with
  | nil => rfl
  | cons x l ih => simp only [chsC, List.flatMap_cons, List.length_append, List.length_cons] at ih ⊢; rw [ih]; simp [chC]; omega
theorem chsC_append (l m : List ChZ) : chsC (l ++ m) = chsC l ++ chsC m := by simp [chsC]
theorem chsC_get (l : List ChZ) : ∀ k (h : k < l.length), (chsC l)[k * 3]? = some (.int .u64 l[k].id.1) ∧ (chsC l)[k * 3 + 1]? = some (.int .i64 l[k].id.2) ∧ (chsC l)[k * 3 + 2]? = some l[k].p.v := by
  induction l with
  | nil => intro k h; simp at h
  | cons x l ih =>
    intro k h
    cases k with
    | zero => exact ⟨rfl, rfl, rfl⟩
    | succ k =>
      have hk : k < l.length := by simpa using h
      obtain ⟨h0, h1, h2⟩ := ih k hk
      have e : chsC (x :: l) = .int .u64 x.id.1 :: .int .i64 x.id.2 :: x.p.v :: chsC l := rfl
      rw [e, show (k + 1) * 3 = k * 3 + 1 + 1 + 1 by omega]
      exact ⟨by simpa using h0, by simpa using h1, by simpa using h2⟩
theorem ones_chs (l : List ChZ) : ∀ u ∈ chsC l, u.oneCell' = true := by
  intro u hu
  obtain ⟨x, _, hx⟩ := List.mem_flatMap.1 hu
  simp only [chC, List.mem_cons, List.not_mem_nil, or_false] at hx
  rcases hx with rfl | rfl | rfl <;> rfl
/-- element k of a row of chunks -/
theorem chs_at {w : World} {B : Nat} {A : Option Addr} {l : List ChZ} (hr : Row w B A (chsC l)) {k : Nat} (h : k < l.length) :
    ∃ ad : Addr, A = some ad ∧ ad.block < B ∧ w.cell? (ad.add (k * 3)) = some (.int .u64 l[k].id.1) ∧ w.cell? ⟨(ad.add (k * 3)).block, (ad.add (k * 3)).off + 1, none⟩ = some (.int .i64 l[k].id.2) ∧
      w.cell? ⟨(ad.add (k * 3)).block, (ad.add (k * 3)).off + 2, none⟩ = some (.slice l[k].p.A l[k].p.zs.length l[k].p.cap) := by
  obtain ⟨g0, g1, g2⟩ := chsC_get l k h
  have hl := chsC_len l
  obtain ⟨ad, rfl, hb, hc⟩ := hr.at_ (k := k * 3) (by omega)
  obtain ⟨ad2, e, _, hc2⟩ := hr.at_ (k := k * 3 + 1) (by omega)
  obtain rfl : ad = ad2 := by injection e
  obtain ⟨ad2, e, _, hc3⟩ := hr.at_ (k := k * 3 + 2) (by omega)
  obtain rfl : ad = ad2 := by injection e
  rw [List.getElem?_eq_getElem (by omega)] at g0 g1 g2
  have e1 : (⟨(ad.add (k * 3)).block, (ad.add (k * 3)).off + 1, none⟩ : Addr) = ad.add (k * 3 + 1) := add_add ad (k * 3) 1
  have e2 : (⟨(ad.add (k * 3)).block, (ad.add (k * 3)).off + 2, none⟩ : Addr) = ad.add (k * 3 + 2) := add_add ad (k * 3) 2
  exact ⟨ad, rfl, hb, hc.trans g0, by rw [e1]; exact hc2.trans g1, by rw [e2]; exact hc3.trans g2⟩
/-- chunks whose numbers fit and whose bytes are bytes -/
def OkC (l : List ChZ) : Prop := ∀ c ∈ l, WfI c.id ∧ Byt c.p.zs ∧ c.p.zs.length ≤ c.p.cap ∧ c.p.zs.length ≤ 9223372036854775807
/-- .. that lie below B -/
def LieC (w : World) (B : Nat) (l : List ChZ) : Prop := ∀ c ∈ l, Row w B c.p.A (c.p.zs.map (.int .u8))
theorem LieC.below {w w' : World} {B N : Nat} {l : List ChZ} (h : LieC w B l) (hb : Below N w w') (hB : B ≤ N) : LieC w' B l := fun c hc => (h c hc).below hb hB
/-- the first chunk with an ID -/
def fstC (l : List ChZ) (x : IdZ) : Option ChZ := l.find? fun c => decide (c.id = x)
theorem fstC_mem {l : List ChZ} {x : IdZ} {c : ChZ} (h : fstC l x = some c) : c ∈ l ∧ c.id = x := ⟨List.mem_of_find?_eq_some h, by simpa using List.find?_some h⟩
theorem fstC_snoc {l : List ChZ} {k : Nat} (hk : k < l.length) (x : IdZ) : fstC (l.take (k + 1)) x = match fstC (l.take k) x with | some c => some c | none => if x = l[k].id then some l[k] else none := by
  unfold fstC
  rw [List.take_succ_eq_append_getElem hk, List.find?_append]
  cases h : (l.take k).find? fun c => decide (c.id = x) with
  | some c => rfl
  | none =>
    simp only [Option.none_or, List.find?_cons, List.find?_nil]
    by_cases e : l[k].id = x
    · rw [decide_eq_true e, if_pos e.symm]
    · rw [decide_eq_false e, if_neg (fun h => e h.symm)]
def fstV (l : List ChZ) (x : IdZ) : Option Value := (fstC l x).map fun c => c.p.v
theorem fstV_skip {l : List ChZ} {k : Nat} (hk : k < l.length) (h : (fstV (l.take k) l[k].id).isSome = true) (x : IdZ) : fstV (l.take k) x = fstV (l.take (k + 1)) x := by
  unfold fstV at h ⊢
  rw [fstC_snoc hk]
  cases hx : fstC (l.take k) x with
  | some c => rfl
  | none =>
    simp only
    split
    · rename_i e; subst e; rw [hx] at h; cases h
    · rfl
theorem fstV_add {l : List ChZ} {k : Nat} (hk : k < l.length) (h : (fstV (l.take k) l[k].id).isSome = false) (x : IdZ) : updM (fstV (l.take k)) l[k].id l[k].p.v x = fstV (l.take (k + 1)) x := by
  unfold fstV updM at *
  rw [fstC_snoc hk]
  by_cases e : x = l[k].id
  · subst e
    rw [if_pos rfl]
    cases hx : fstC (l.take k) l[k].id with
    | some c => rw [hx] at h; cases h
    | none => simp
  · rw [if_neg e]
    show (fstC (l.take k) x).map _ = _
    cases hx : fstC (l.take k) x with
    | some c => rfl
    | none => simp [e]

set_option maxRecDepth 100000 in
set_option maxHeartbeats 2000000 in
theorem newShelf_any (L : Option Addr) (lc B : Nat) (l : List ChZ) (w : World) (hr : Row w B L (chsC l)) (hB : B ≤ w.heap.size) (hm : l.length ≤ 4611686018427387904) (hok : OkC l) :
    Calls Try.prog 56 #[.slice L l.length lc] w fun e w' => ∃ b1 b2, e = .returned (.agg #[.map (some b1), .map (some b2)]) ∧ MapIs w' b1 l.length (fstV l) ∧ MapIs w' b2 0 (fun _ => none) ∧ w.heap.size ≤ b1 ∧ b1 < b2 ∧ Below w.heap.size w w' := by
  have Hok := Lib.hid hok
  clear hok
  have gR := grew_alloc w (.cells #[.map none, .map none] 94)
  have hR := Blk.new w 94 #[.map none, .map none]
  have z0 : (w.alloc (.cells #[.map none, .map none] 94)).heap.size = w.heap.size + 1 := by simp
  generalize hw0 : w.alloc (.cells #[.map none, .map none] 94) = w0 at gR hR z0
  have gA := grew_alloc w0 (.map #[] 0)
  have M1 := MapIs.made' (w := w0) z0.symm
  have z1 : (w0.alloc (.map #[] 0)).heap.size = w.heap.size + 1 + 1 := by simp [z0]
  generalize hw1 : w0.alloc (.map #[] 0) = w1 at gA M1 z1
  have gB := grew_alloc w1 (.map #[] 0)
  have M2 := MapIs.made' (w := w1) z1.symm
  have z2 : (w1.alloc (.map #[] 0)).heap.size = w.heap.size + 1 + 1 + 1 := by simp [z1]
  generalize hw2 : w1.alloc (.map #[] 0) = w2 at gB M2 z2
  have gC := grew_alloc w2 (.cells #[.map (some (w.heap.size + 1)), .map (some (w.heap.size + 1 + 1))] 94)
  have hS := Blk.new w2 94 #[.map (some (w.heap.size + 1)), .map (some (w.heap.size + 1 + 1))]
  rw [z2] at hS
  replace hR := ((hR.of gA).of gB).of gC
  replace M1 := (M1.of gB).of gC
  replace M2 := M2.of gC
  have gAll := (((gR.trans gA).trans gB).trans gC)
  have z3 : w.heap.size + 1 + 1 + 1 + 1 = (w2.alloc (.cells #[.map (some (w.heap.size + 1)), .map (some (w.heap.size + 1 + 1))] 94)).heap.size := by simp [z2]
  clear gR gA gB gC
  subst hw2
  subst hw1
  subst hw0
  have hr3 := hr.below gAll hB
  clear z0 z1 z2
  have hmk := @run_makeMap Try.prog
  have hmk2 := fun (n : Int) (W : World) => run_makeMap_n Try.underlying91 n W
  have HZ := Lib.hid z3
  clear z3
  go_enter Try.func56, Try.ntmps56
  go_wp2_with fail
  clear hmk hmk2
  generalize (((w.alloc (.cells #[.map none, .map none] 94)).alloc (.map #[] 0)).alloc (.map #[] 0)).alloc (.cells #[.map (some (w.heap.size + 1)), .map (some (w.heap.size + 1 + 1))] 94) = w3 at *
  generalize hgc : w.heap.size = gc at *
  have HGc := Lib.hid hgc
  clear hgc
  have hzs := HZ.out
  go_loopw [15] (fun i wr => ∃ k : Nat, k ≤ l.length ∧ i = .int .i64 k ∧ MapIs wr (gc + 1) k (fstV (l.take k)) ∧ Ch (At (gc + 1)) w3 wr) (fun i _ => l.length - (intOf i).toNat)
  case atStart => exact ⟨0, Nat.zero_le _, rfl, M1.congr (fun x => rfl), Ch.refl _ _⟩
  case round =>
    obtain ⟨k, hk, rfl, hM, hch⟩ := hrel
    have hws := hch.size
    by_cases hlt : k < l.length
    · have hrr := hr3.ch hch (by omega) (fun i hi => by have h' : i = gc + 1 := hi; omega)
      obtain ⟨ad, rfl, hbl, d0, d1, d2⟩ := chs_at hrr hlt
      have hwf := (Hok.out l[k] (List.getElem_mem hlt)).1
      have HSk := Lib.hid (fun h x => fstV_skip hlt h x)
      have HAd := Lib.hid (fun h x => fstV_add hlt h x)
      have hga := grew_alloc wr (.cells #[.int .u64 l[k].id.1, .int .i64 l[k].id.2, .slice l[k].p.A l[k].p.zs.length l[k].p.cap] 53)
      have hX := Blk.new wr 53 #[.int .u64 l[k].id.1, .int .i64 l[k].id.2, .slice l[k].p.A l[k].p.zs.length l[k].p.cap]
      have hMa := hM.of hga
      have hlk := hMa.look hwf Try.underlying91 (z := .slice none 0 0) (by kernel_rfl)
      have hSa := ((hS.ch hch (by show ¬ gc + 1 + 1 + 1 = gc + 1; omega)).of hga)
      have s0 := (hSa.cell 0).trans (show _ = some (.map (some (gc + 1))) from rfl)
      have hcha := hch.next hga
      clear hM hch hrr hga
      by_cases hs : (fstV (l.take k) l[k].id).isSome = true
      · rw [hs] at hlk
        have HF := Lib.hid (HSk.out hs)
        clear hs HSk HAd
        go_wp2_with fail
        go_roundw
        case rel => exact ⟨k + 1, by omega, by go_num, (hMa.mono (Nat.le_succ k)).congr HF.out, hcha⟩
        case measure => simp [intOf]; omega
      · have hs' : (fstV (l.take k) l[k].id).isSome = false := by simpa using hs
        rw [hs'] at hlk
        have HF := Lib.hid (HAd.out hs')
        clear hs hs' HSk HAd
        go_wp2_with (at_mapUpdate; refine wpList_store_id rfl (.tmp 30) (.tmp 32) (.tmp 34) rfl Try.underlying91 rfl hMa (by unfold maxLen; omega) l[k].id rfl hwf rfl ?_; intro w6 hM6 hch6)
        go_roundw
        case rel => exact ⟨k + 1, by omega, by go_num, hM6.congr HF.out, hcha.trans hch6⟩
        case measure => simp [intOf]; omega
    · obtain rfl : k = l.length := by omega
      rw [List.take_length] at hM
      have hS' := hS.ch hch (by show ¬ gc + 1 + 1 + 1 = gc + 1; omega)
      have hR' := hR.ch hch (by show ¬ gc = gc + 1; omega)
      have s0 := (hS'.cell 0).trans (show _ = some (.map (some (gc + 1))) from rfl)
      have s1 := (hS'.cell 1).trans (show _ = some (.map (some (gc + 1 + 1))) from rfl)
      have r0 := (hR'.cell 0).trans (show _ = some (.map none) from rfl)
      have r1 := (hR'.cell 1).trans (show _ = some (.map none) from rfl)
      have f0 := hR'.frozen 0
      have f1 := hR'.frozen 1
      have hM2 := M2.ch hch (by show ¬ gc + 1 + 1 = gc + 1; omega)
      go_wp2_with fail
      have hk4 := ((Ch.refl (At gc) wr).set_at 0 (.map (some (gc + 1)))).set_at 1 (.map (some (gc + 1 + 1)))
      refine bodyPost_ret (v := .agg #[.map (some (gc + 1)), .map (some (gc + 1 + 1))]) ?_ rfl ⟨gc + 1, gc + 1 + 1, rfl, hM.ch hk4 (by show ¬ gc + 1 = gc; omega), hM2.ch hk4 (by show ¬ gc + 1 + 1 = gc; omega), by rw [HGc.out]; omega, by omega, ?_⟩
      · simp [results, Try.results56, go_sem, r0, r1]
      · have h1 : Below w.heap.size w wr := Below.trans (B := w.heap.size) gAll (hch.below (by rw [HGc.out]; omega) (fun i hi => by have h' : i = gc + 1 := hi; rw [HGc.out]; omega))
        exact Below.trans (B := w.heap.size) h1 (hk4.below h1.size (fun i hi => by have h' : i = gc := hi; rw [HGc.out]; omega))

/-- what the map 'sound' says is true -/
def SoundOk (l : List ChZ) (g : IdZ → Option Value) : Prop := ∀ y v, g y = some v → v = .bool true ∧ ∃ c, fstC l y = some c ∧ idOf c.p.zs = y
theorem SoundOk.none {l : List ChZ} : SoundOk l (fun _ => Option.none) := fun y v h => by cases h
theorem SoundOk.upd {l : List ChZ} {g : IdZ → Option Value} (h : SoundOk l g) {c : ChZ} {x : IdZ} (hc : fstC l x = some c) (hi : idOf c.p.zs = x) : SoundOk l (updM g x (.bool true)) := fun y v hv => by
  unfold updM at hv
  split at hv
  · rename_i e; subst e; cases hv; exact ⟨rfl, c, hc, hi⟩
  · exact h y v hv
/-- the bytes of a chunk, or the error -/
def fndE (l : List ChZ) (x : IdZ) : Int := match fstC l x with | some c => if idOf c.p.zs = x then 0 else 255 | Option.none => 254
def fndP (l : List ChZ) (x : IdZ) : Part := match fstC l x with | some c => if idOf c.p.zs = x then c.p else ⟨Option.none, 0, []⟩ | Option.none => ⟨Option.none, 0, []⟩
theorem fnd_none {l : List ChZ} {x : IdZ} (h : fstC l x = Option.none) : fndE l x = 254 ∧ fndP l x = ⟨Option.none, 0, []⟩ := by unfold fndE fndP; rw [h]; exact ⟨rfl, rfl⟩
theorem fnd_bad {l : List ChZ} {x : IdZ} {c : ChZ} (h : fstC l x = some c) (hi : ¬ idOf c.p.zs = x) : fndE l x = 255 ∧ fndP l x = ⟨Option.none, 0, []⟩ := by unfold fndE fndP; rw [h]; simp only; rw [if_neg hi, if_neg hi]; exact ⟨rfl, rfl⟩
theorem fnd_ok {l : List ChZ} {x : IdZ} {c : ChZ} (h : fstC l x = some c) (hi : idOf c.p.zs = x) : fndE l x = 0 ∧ fndP l x = c.p := by unfold fndE fndP; rw [h]; simp only; rw [if_pos hi, if_pos hi]; exact ⟨rfl, rfl⟩
def BytesRes (l : List ChZ) (b1 b2 m2 : Nat) (x : IdZ) (w : World) (e : Ending) (w' : World) : Prop := e = .returned (.tuple #[(fndP l x).v, .int .i64 (fndE l x)]) ∧
  (∃ g, MapIs w' b2 (m2 + 1) g ∧ SoundOk l g) ∧ Ch (At b2) w w'
end

/- ShelfB:
  manifest's shelf.bytes: the bytes of a chunk, found and verified.
-/
section
set_option linter.unusedVariables false
set_option linter.unusedSimpArgs false
set_option linter.unnecessarySimpa false
open Go.RowKit
attribute [local go_sem ↓] Go.wp_at_zero Go.wp_at_succ

theorem bytes_end {l : List ChZ} {b1 b2 m2 : Nat} {x : IdZ} {w w' : World} {v : Value} {e : Int} (hv : v = (fndP l x).v) (he : e = fndE l x) {g : IdZ → Option Value} (hm : MapIs w' b2 (m2 + 1) g) (hg : SoundOk l g) (hc : Ch (At b2) w w') :
    BytesRes l b1 b2 m2 x w (.returned (.tuple #[v, .int .i64 e])) w' := by subst hv; subst he; exact ⟨rfl, ⟨g, hm, hg⟩, hc⟩

set_option maxRecDepth 100000 in
set_option maxHeartbeats 2000000 in
theorem shelfBytes_any (b1 b2 m1 m2 B : Nat) (l : List ChZ) (x : IdZ) (g : IdZ → Option Value) (w : World) (h1 : MapIs w b1 m1 (fstV l)) (h2 : MapIs w b2 m2 g) (hg : SoundOk l g) (hm2 : m2 < maxLen) (hp : LieC w B l) (hB : B ≤ w.heap.size) (hok : OkC l) (wx : WfI x) :
    Calls Try.prog 57 #[.agg #[.map (some b1), .map (some b2)], .agg #[.int .u64 x.1, .int .i64 x.2]] w (BytesRes l b1 b2 m2 x w) := by
  have gA := grew_alloc w (.cells #[.map (some b1), .map (some b2)] 94)
  have hS := Blk.new w 94 #[.map (some b1), .map (some b2)]
  have z0 : (w.alloc (.cells #[.map (some b1), .map (some b2)] 94)).heap.size = w.heap.size + 1 := by simp
  have gB := grew_alloc (w.alloc (.cells #[.map (some b1), .map (some b2)] 94)) (.cells #[.int .u64 x.1, .int .i64 x.2] 51)
  have hI := Blk.new (w.alloc (.cells #[.map (some b1), .map (some b2)] 94)) 51 #[.int .u64 x.1, .int .i64 x.2]
  rw [z0] at hI
  replace hS := hS.of gB
  have gAB := gA.trans gB
  have k1 := h1.of gAB
  have k2 := h2.of gAB
  have hp2 := hp.below gAB hB
  have hB2 := Nat.le_trans hB gAB.size
  have hlk := k1.look wx Try.underlying91 (z := .slice none 0 0) (by kernel_rfl)
  have s0 := (hS.cell 0).trans (show _ = some (.map (some b1)) from rfl)
  have s1 := (hS.cell 1).trans (show _ = some (.map (some b2)) from rfl)
  have i0 := (hI.cell 0).trans (show _ = some (.int .u64 x.1) from rfl)
  have i1 := (hI.cell 1).trans (show _ = some (.int .i64 x.2) from rfl)
  have hch0 : Ch (At b2) w ((w.alloc (.cells #[.map (some b1), .map (some b2)] 94)).alloc (.cells #[.int .u64 x.1, .int .i64 x.2] 51)) := Ch.of_below gAB
  clear gA gB gAB z0 h1 h2 hp
  have Hg := Lib.hid hg
  have Hok := Lib.hid hok
  clear hg hok
  cases hf : fstC l x with
  | none =>
    have HF := Lib.hid (fnd_none hf)
    have hv : fstV l x = none := by unfold fstV; rw [hf]; rfl
    rw [hv] at hlk
    clear hv hf
    go_enter Try.func57, Try.ntmps57
    go_wp2_with fail
    go_ret2
    exact bytes_end (by rw [HF.out.2]; rfl) HF.out.1.symm (k2.mono (Nat.le_succ _)) Hg.out hch0
  | some c =>
    have hv : fstV l x = some c.p.v := by unfold fstV; rw [hf]; rfl
    rw [hv] at hlk
    have hcm := (fstC_mem hf).1
    obtain ⟨_, hcb, _, hcl⟩ := Hok.out c hcm
    have hrow := hp2 c hcm
    have HFst := Lib.hid hf
    clear hv hf
    obtain ⟨xs, xn⟩ := x
    cases hgx : g (xs, xn) with
    | some u =>
      obtain ⟨hu, c', hc', hi'⟩ := Hg.out _ u hgx
      subst hu
      have hcc : c' = c := by rw [HFst.out] at hc'; exact (Option.some.inj hc').symm
      subst hcc
      have HF := Lib.hid (fnd_ok HFst.out hi')
      have HI := Lib.hid hi'
      have HX := Lib.hid hgx
      clear hgx hc' hi'
      go_enter Try.func57, Try.ntmps57
      unfold Part.v at hlk
      go_wp2_with fail
      generalize (w.alloc (.cells #[.map (some b1), .map (some b2)] 94)).alloc (.cells #[.int .u64 xs, .int .i64 xn] 51) = w2 at *
      generalize w.heap.size = gc at *
      refine wp_region_g 9 (by kernel_rfl) ?_
      have HL := Lib.hid (fun W (h : Grew w2 W) => by have := (k2.of h).get wx Try.underlying92 (z := .bool false) (by kernel_rfl); rw [HX.out] at this; exact this)
      refine AllC.head 0 9 (fuel := 1) (by first | exact fun h k => Grew.trans h k | exact fun h k => cls_grew h k) (grew_drew _) (by rfl) (by kernel_rfl) ?_
      simp only [List.take_succ_cons, List.take_zero, List.drop_succ_cons, List.drop_zero]
      repeat (first
        | (refine HeadC.val (by rfl) ?_
           apply Exists.intro
           refine ⟨fun w' hw' => ?_, ?_⟩
           · (have hf_0 := cell_up hw' s1; have hf_1 := cell_up hw' i0; have hf_2 := cell_up hw' i1; have hf_3 := HL.out _ hw'; (go_simp) <;> (try go_ints) <;> with_reducible rfl)
           try simp only [Act.put, List.setIfInBounds_toArray, List.set_cons_zero, List.set_cons_succ])
        | (refine HeadC.shut (by rfl) ?_
           try simp only [Act.put, List.setIfInBounds_toArray, List.set_cons_zero, List.set_cons_succ]))
      refine HeadC.nil ?_
      refine AllC.tail 9 (by rfl) (by kernel_rfl) ?_
      intro wt hwt
      simp only [List.drop_succ_cons, List.drop_zero]
      have hg9 := (grew_drew w2).trans hwt
      have s1' := cell_up hg9 s1
      have i0' := cell_up hg9 i0
      have i1' := cell_up hg9 i1
      have k2' := k2.of hg9
      have hch9 := hch0.next hg9
      clear hwt s0 s1 i0 i1 hlk
      go_wp2_with (at_mapUpdate; refine wpList_store_id rfl (.tmp 28) (.tmp 29) (.const (.bool true)) rfl Try.underlying92 rfl k2' hm2 (xs, xn) rfl wx rfl ?_; intro w6 hM6 hch6)
      go_ret2
      exact bytes_end (by rw [HF.out.2]; rfl) HF.out.1.symm hM6 (Hg.out.upd HFst.out HI.out) (hch9.trans hch6)
    | none =>
      have HX := Lib.hid hgx
      clear hgx
      have HOf := Lib.hid (fun W (h : Row W B c.p.A (c.p.zs.map (.int .u8))) (hb : B ≤ W.heap.size) => of_any c.p.A c.p.cap B c.p.zs W h hb hcb (by omega))
      by_cases hi : idOf c.p.zs = (xs, xn)
      · have HF := Lib.hid (fnd_ok HFst.out hi)
        have HI := Lib.hid hi
        have e0 : sumZ c.p.zs = xs := congrArg Prod.fst hi
        have e1 : (c.p.zs.length : Int) = xn := congrArg Prod.snd hi
        rw [e0, e1] at HOf
        clear e0 e1 hi
        go_enter Try.func57, Try.ntmps57
        unfold Part.v at hlk
        go_wp2_with fail
        generalize (w.alloc (.cells #[.map (some b1), .map (some b2)] 94)).alloc (.cells #[.int .u64 xs, .int .i64 xn] 51) = w2 at *
        generalize w.heap.size = gc at *
        refine wp_region_g 9 (by kernel_rfl) ?_
        have HL := Lib.hid (fun W (h : Grew w2 W) => by have := (k2.of h).get wx Try.underlying92 (z := .bool false) (by kernel_rfl); rw [HX.out] at this; exact this)
        refine AllC.head 0 9 (fuel := 1) (by first | exact fun h k => Grew.trans h k | exact fun h k => cls_grew h k) (grew_drew _) (by rfl) (by kernel_rfl) ?_
        simp only [List.take_succ_cons, List.take_zero, List.drop_succ_cons, List.drop_zero]
        repeat (first
          | (refine HeadC.val (by rfl) ?_
             apply Exists.intro
             refine ⟨fun w' hw' => ?_, ?_⟩
             · (have hf_0 := cell_up hw' s1; have hf_1 := cell_up hw' i0; have hf_2 := cell_up hw' i1; have hf_3 := HL.out _ hw'; (go_simp) <;> (try go_ints) <;> with_reducible rfl)
             try simp only [Act.put, List.setIfInBounds_toArray, List.set_cons_zero, List.set_cons_succ])
          | (refine HeadC.call (by rfl) ?_
             apply Exists.intro; apply Exists.intro
             refine ⟨fun w' hw' => ?_, ?_⟩
             · (have hf_0 := cell_up hw' s1; have hf_1 := cell_up hw' i0; have hf_2 := cell_up hw' i1; have hf_3 := HL.out _ hw'; (go_simp) <;> first | (refine ⟨?_, ?_⟩ <;> with_reducible rfl) | with_reducible rfl)
             apply Exists.intro
             refine ⟨fun w' hw' => ?_, ?_⟩
             · (first | exact HOf.out _ (hrow.up hw' hB2) (Nat.le_trans hB2 hw'.size))
             try simp only [Act.put, List.setIfInBounds_toArray, List.set_cons_zero, List.set_cons_succ])
          | (refine HeadC.shut (by rfl) ?_
             try simp only [Act.put, List.setIfInBounds_toArray, List.set_cons_zero, List.set_cons_succ]))
        refine HeadC.nil ?_
        refine AllC.tail 9 (by rfl) (by kernel_rfl) ?_
        intro wt hwt
        simp only [List.drop_succ_cons, List.drop_zero]
        have hg9 := (grew_drew w2).trans hwt
        have s1' := cell_up hg9 s1
        have i0' := cell_up hg9 i0
        have i1' := cell_up hg9 i1
        have k2' := k2.of hg9
        have hch9 := hch0.next hg9
        clear hwt s0 s1 i0 i1 hlk
        go_wp2_with (at_mapUpdate; refine wpList_store_id rfl (.tmp 28) (.tmp 29) (.const (.bool true)) rfl Try.underlying92 rfl k2' hm2 (xs, xn) rfl wx rfl ?_; intro w6 hM6 hch6)
        go_ret2
        exact bytes_end (by rw [HF.out.2]; rfl) HF.out.1.symm hM6 (Hg.out.upd HFst.out HI.out) (hch9.trans hch6)
      · have HF := Lib.hid (fnd_bad HFst.out hi)
        rcases id_ne hi with hne | ⟨h0, hne⟩
        · clear hi
          go_enter Try.func57, Try.ntmps57
          unfold Part.v at hlk
          go_wp2_with fail
          generalize (w.alloc (.cells #[.map (some b1), .map (some b2)] 94)).alloc (.cells #[.int .u64 xs, .int .i64 xn] 51) = w2 at *
          generalize w.heap.size = gc at *
          refine wp_region_g 9 (by kernel_rfl) ?_
          have HL := Lib.hid (fun W (h : Grew w2 W) => by have := (k2.of h).get wx Try.underlying92 (z := .bool false) (by kernel_rfl); rw [HX.out] at this; exact this)
          refine AllC.head 0 9 (fuel := 1) (by first | exact fun h k => Grew.trans h k | exact fun h k => cls_grew h k) (grew_drew _) (by rfl) (by kernel_rfl) ?_
          simp only [List.take_succ_cons, List.take_zero, List.drop_succ_cons, List.drop_zero]
          repeat (first
            | (refine HeadC.val (by rfl) ?_
               apply Exists.intro
               refine ⟨fun w' hw' => ?_, ?_⟩
               · (have hf_0 := cell_up hw' s1; have hf_1 := cell_up hw' i0; have hf_2 := cell_up hw' i1; have hf_3 := HL.out _ hw'; (go_simp) <;> (try go_ints) <;> with_reducible rfl)
               try simp only [Act.put, List.setIfInBounds_toArray, List.set_cons_zero, List.set_cons_succ])
            | (refine HeadC.call (by rfl) ?_
               apply Exists.intro; apply Exists.intro
               refine ⟨fun w' hw' => ?_, ?_⟩
               · (have hf_0 := cell_up hw' s1; have hf_1 := cell_up hw' i0; have hf_2 := cell_up hw' i1; have hf_3 := HL.out _ hw'; (go_simp) <;> first | (refine ⟨?_, ?_⟩ <;> with_reducible rfl) | with_reducible rfl)
               apply Exists.intro
               refine ⟨fun w' hw' => ?_, ?_⟩
               · (first | exact HOf.out _ (hrow.up hw' hB2) (Nat.le_trans hB2 hw'.size))
               try simp only [Act.put, List.setIfInBounds_toArray, List.set_cons_zero, List.set_cons_succ])
            | (refine HeadC.shut (by rfl) ?_
               try simp only [Act.put, List.setIfInBounds_toArray, List.set_cons_zero, List.set_cons_succ]))
          refine HeadC.nil ?_
          refine AllC.tail 9 (by rfl) (by kernel_rfl) ?_
          intro wt hwt
          simp only [List.drop_succ_cons, List.drop_zero]
          have hg9 := (grew_drew w2).trans hwt
          go_wp2_with fail
          go_ret2
          exact bytes_end (by rw [HF.out.2]; rfl) HF.out.1.symm ((k2.of hg9).mono (Nat.le_succ _)) Hg.out (hch0.next hg9)
        · clear hi
          rw [h0] at HOf
          clear h0
          go_enter Try.func57, Try.ntmps57
          unfold Part.v at hlk
          go_wp2_with fail
          generalize (w.alloc (.cells #[.map (some b1), .map (some b2)] 94)).alloc (.cells #[.int .u64 xs, .int .i64 xn] 51) = w2 at *
          generalize w.heap.size = gc at *
          refine wp_region_g 9 (by kernel_rfl) ?_
          have HL := Lib.hid (fun W (h : Grew w2 W) => by have := (k2.of h).get wx Try.underlying92 (z := .bool false) (by kernel_rfl); rw [HX.out] at this; exact this)
          refine AllC.head 0 9 (fuel := 1) (by first | exact fun h k => Grew.trans h k | exact fun h k => cls_grew h k) (grew_drew _) (by rfl) (by kernel_rfl) ?_
          simp only [List.take_succ_cons, List.take_zero, List.drop_succ_cons, List.drop_zero]
          repeat (first
            | (refine HeadC.val (by rfl) ?_
               apply Exists.intro
               refine ⟨fun w' hw' => ?_, ?_⟩
               · (have hf_0 := cell_up hw' s1; have hf_1 := cell_up hw' i0; have hf_2 := cell_up hw' i1; have hf_3 := HL.out _ hw'; (go_simp) <;> (try go_ints) <;> with_reducible rfl)
               try simp only [Act.put, List.setIfInBounds_toArray, List.set_cons_zero, List.set_cons_succ])
            | (refine HeadC.call (by rfl) ?_
               apply Exists.intro; apply Exists.intro
               refine ⟨fun w' hw' => ?_, ?_⟩
               · (have hf_0 := cell_up hw' s1; have hf_1 := cell_up hw' i0; have hf_2 := cell_up hw' i1; have hf_3 := HL.out _ hw'; (go_simp) <;> first | (refine ⟨?_, ?_⟩ <;> with_reducible rfl) | with_reducible rfl)
               apply Exists.intro
               refine ⟨fun w' hw' => ?_, ?_⟩
               · (first | exact HOf.out _ (hrow.up hw' hB2) (Nat.le_trans hB2 hw'.size))
               try simp only [Act.put, List.setIfInBounds_toArray, List.set_cons_zero, List.set_cons_succ])
            | (refine HeadC.shut (by rfl) ?_
               try simp only [Act.put, List.setIfInBounds_toArray, List.set_cons_zero, List.set_cons_succ]))
          refine HeadC.nil ?_
          refine AllC.tail 9 (by rfl) (by kernel_rfl) ?_
          intro wt hwt
          simp only [List.drop_succ_cons, List.drop_zero]
          have hg9 := (grew_drew w2).trans hwt
          go_wp2_with fail
          go_ret2
          exact bytes_end (by rw [HF.out.2]; rfl) HF.out.1.symm ((k2.of hg9).mono (Nat.le_succ _)) Hg.out (hch0.next hg9)
end

/- Range:
  manifest.Range, Assemble: the bytes between two offsets, given chunks.
-/
section
set_option linter.unusedVariables false
set_option linter.unusedSimpArgs false
set_option linter.unnecessarySimpa false
open Go.RowKit
attribute [local go_sem ↓] Go.wp_at_zero Go.wp_at_succ

/-- a piece lies in its chunk -/
theorem slK_bd {f t : Int} {l : List IdZ} : ∀ k, k ≤ l.length → ∀ p ∈ slK f t l k, ∃ (i a c : Nat), p = (i, (a : Int), (c : Int)) ∧ ∃ h : i < l.length, a < c ∧ (c : Int) ≤ l[i].2 := by
  intro k
  induction k with
  | zero => intro _ p hp; simp [slK] at hp
  | succ k ih =>
    intro hk p hp
    rw [slK_succ (by omega : k < l.length), List.mem_append] at hp
    rcases hp with hp | hp
    · exact ih (by omega) p hp
    · unfold pcAt at hp
      split at hp
      · rename_i hlt
        rw [List.mem_singleton] at hp
        subst hp
        refine ⟨k, (max (f - sumN (l.take k)) 0).toNat, (min (t - sumN (l.take k)) l[k].2).toNat, ?_, by omega, by omega, by omega⟩
        rw [Int.toNat_of_nonneg (by omega), Int.toNat_of_nonneg (by omega)]
      · simp at hp
theorem pcsC_get (l : List PcZ) : ∀ k (h : k < l.length), (pcsC l)[k * 3]? = some (.int .i64 (l[k].1 : Nat)) ∧ (pcsC l)[k * 3 + 1]? = some (.int .i64 l[k].2.1) ∧ (pcsC l)[k * 3 + 2]? = some (.int .i64 l[k].2.2) := by
  induction l with
  | nil => intro k h; simp at h
  | cons x l ih =>
    intro k h
    cases k with
    | zero => exact ⟨rfl, rfl, rfl⟩
    | succ k =>
      have hk : k < l.length := by simpa using h
      obtain ⟨h0, h1, h2⟩ := ih k hk
      have e : pcsC (x :: l) = .int .i64 x.1 :: .int .i64 x.2.1 :: .int .i64 x.2.2 :: pcsC l := rfl
      rw [e, show (k + 1) * 3 = k * 3 + 1 + 1 + 1 by omega]
      exact ⟨by simpa using h0, by simpa using h1, by simpa using h2⟩
theorem pcs_at {w : World} {B : Nat} {A : Option Addr} {l : List PcZ} (hr : Row w B A (pcsC l)) {k : Nat} (h : k < l.length) :
    ∃ ad : Addr, A = some ad ∧ ad.block < B ∧ w.cell? (ad.add (k * 3)) = some (.int .i64 (l[k].1 : Nat)) ∧ w.cell? ⟨(ad.add (k * 3)).block, (ad.add (k * 3)).off + 1, none⟩ = some (.int .i64 l[k].2.1) ∧
      w.cell? ⟨(ad.add (k * 3)).block, (ad.add (k * 3)).off + 2, none⟩ = some (.int .i64 l[k].2.2) := by
  obtain ⟨g0, g1, g2⟩ := pcsC_get l k h
  have hl := pcsC_len l
  obtain ⟨ad, rfl, hb, hc⟩ := hr.at_ (k := k * 3) (by omega)
  obtain ⟨ad2, e, _, hc2⟩ := hr.at_ (k := k * 3 + 1) (by omega)
  obtain rfl : ad = ad2 := by injection e
  obtain ⟨ad2, e, _, hc3⟩ := hr.at_ (k := k * 3 + 2) (by omega)
  obtain rfl : ad = ad2 := by injection e
  rw [List.getElem?_eq_getElem (by omega)] at g0 g1 g2
  have e1 : (⟨(ad.add (k * 3)).block, (ad.add (k * 3)).off + 1, none⟩ : Addr) = ad.add (k * 3 + 1) := add_add ad (k * 3) 1
  have e2 : (⟨(ad.add (k * 3)).block, (ad.add (k * 3)).off + 2, none⟩ : Addr) = ad.add (k * 3 + 2) := add_add ad (k * 3) 2
  exact ⟨ad, rfl, hb, hc.trans g0, by rw [e1]; exact hc2.trans g1, by rw [e2]; exact hc3.trans g2⟩

/-- the error of a piece, its bytes -/
def pcE (l : List ChZ) (ids : List IdZ) (p : PcZ) : Int := fndE l (ids.getD p.1 (0, 0))
def pcB (l : List ChZ) (ids : List IdZ) (p : PcZ) : List Int := ((fndP l (ids.getD p.1 (0, 0))).zs.drop p.2.1.toNat).take (p.2.2 - p.2.1).toNat
def rgE (l : List ChZ) (ids : List IdZ) : List PcZ → Int
  | [] => 0
  | p :: ps => if pcE l ids p = 0 then rgE l ids ps else pcE l ids p
def rgB (l : List ChZ) (ids : List IdZ) (ps : List PcZ) : List Int := ps.flatMap (pcB l ids)
theorem rgE_ok {l : List ChZ} {ids : List IdZ} : ∀ {ps : List PcZ}, (∀ j (h : j < ps.length), pcE l ids ps[j] = 0) → rgE l ids ps = 0
  | [], _ => rfl
  | p :: ps, h => by
    have h0 : pcE l ids p = 0 := h 0 (by simp)
    rw [rgE, if_pos h0]
    exact rgE_ok (fun j hj => h (j + 1) (by simpa using hj))
theorem rgE_at {l : List ChZ} {ids : List IdZ} : ∀ {ps : List PcZ} {k : Nat} (hk : k < ps.length), (∀ j (h : j < ps.length), j < k → pcE l ids ps[j] = 0) → pcE l ids ps[k] ≠ 0 → rgE l ids ps = pcE l ids ps[k]
  | p :: ps, 0, _, _, h => by rw [rgE, if_neg (by simpa using h)]; rfl
  | p :: ps, k + 1, hk, ha, h => by
    have h0 : pcE l ids p = 0 := ha 0 (by simp) (by omega)
    rw [rgE, if_pos h0]
    simp only [List.getElem_cons_succ] at h ⊢
    exact rgE_at (by simpa using hk) (fun j hj hjk => ha (j + 1) (by simpa using hj) (by omega)) (by simpa using h)
theorem rgB_take {l : List ChZ} {ids : List IdZ} {ps : List PcZ} {k : Nat} (h : k < ps.length) : rgB l ids (ps.take (k + 1)) = rgB l ids (ps.take k) ++ pcB l ids ps[k] := by
  unfold rgB; rw [List.take_succ_eq_append_getElem h, List.flatMap_append]; simp
def rangeE (l : List ChZ) (n : Int) (ids : List IdZ) (f t : Int) : Int := if slE n ids f t = 0 then rgE l ids (slK f t ids ids.length) else slE n ids f t
def rangeB (l : List ChZ) (n : Int) (ids : List IdZ) (f t : Int) : List Int := if rangeE l n ids f t = 0 then rgB l ids (slK f t ids ids.length) else []
/-- a chunk that was found has the length that its ID says -/
theorem fnd_len {l : List ChZ} {x : IdZ} (h : fndE l x = 0) : ∃ c, fstC l x = some c ∧ c ∈ l ∧ idOf c.p.zs = x ∧ fndP l x = c.p ∧ (c.p.zs.length : Int) = x.2 := by
  cases hc : fstC l x with
  | none => rw [(fnd_none hc).1] at h; cases h
  | some c =>
    by_cases hi : idOf c.p.zs = x
    · exact ⟨c, rfl, (fstC_mem hc).1, hi, (fnd_ok hc hi).2, congrArg Prod.snd hi⟩
    · rw [(fnd_bad hc hi).1] at h; cases h
/-- what Range leaves -/
def RangeRes (l : List ChZ) (n : Int) (ids : List IdZ) (f t : Int) (w : World) (e : Ending) (w' : World) : Prop := ∃ (A : Option Addr) (cap : Nat), e = .returned (.tuple #[.slice A (rangeB l n ids f t).length cap, .int .i64 (rangeE l n ids f t)]) ∧
  w'.ownsRow w.heap.size 5 1 (.slice A (rangeB l n ids f t).length cap) (rangeB l n ids f t).length ((rangeB l n ids f t).map (.int .u8)) ∧ Below w.heap.size w w'

set_option maxRecDepth 100000 in
set_option maxHeartbeats 4000000 in
theorem range25_any (n : Int) (A : Option Addr) (cap B : Nat) (ids : List IdZ) (f t : Int) (L : Option Addr) (lc : Nat) (l : List ChZ) (w : World) (hr : Row w B A (idsC ids)) (hw : ∀ x ∈ ids, WfI x) (hl : Row w B L (chsC l)) (hp : LieC w B l) (hok : OkC l) (hB : B ≤ w.heap.size) (hm : ids.length ≤ 9223372036854775807) (hlm : l.length ≤ 4611686018427387904) :
    Calls Try.prog 21 #[.agg #[.int .i64 n, .slice A ids.length cap], .slice L l.length lc, .int .i64 f, .int .i64 t] w (RangeRes l n ids f t w) := by
  have gA := grew_alloc w (.cells #[.int .i64 n, .slice A ids.length cap] 31)
  have hC := Blk.new w 31 #[.int .i64 n, .slice A ids.length cap]
  have c0 := (hC.cell 0).trans (show _ = some (.int .i64 n) from rfl)
  have c1 := (hC.cell 1).trans (show _ = some (.slice A ids.length cap) from rfl)
  have hr1 := hr.below gA hB
  have hl1 := hl.below gA hB
  have hp1 := hp.below gA hB
  have hB1 := Nat.le_trans hB gA.size
  have HS := Lib.hid (slice25_any n A cap B ids f t _ hr1 hB1 hm)
  have Hok := Lib.hid hok
  have Hw := Lib.hid hw
  clear hr hl hp hok hw
  go_enter Try.func21, Try.ntmps21
  go_wp2_with fail
  generalize w.alloc (.cells #[.int .i64 n, .slice A ids.length cap] 31) = w1 at *
  generalize hgc : w.heap.size = gc at *
  have HGc := Lib.hid hgc
  clear hgc
  refine HS.out.mono ?_
  rintro e w2 ⟨A2, c2, rfl, hps, hb⟩
  replace hC := hC.of hb
  replace hr1 := hr1.below hb hB1
  replace hl1 := hl1.below hb hB1
  replace hp1 := hp1.below hb hB1
  replace hB1 := Nat.le_trans hB1 hb.size
  replace gA := gA.trans hb
  clear hb HS c0 c1
  by_cases hE : slE n ids f t = 0
  · have hsl : slL n ids f t = slK f t ids ids.length := by unfold slL; rw [if_pos hE]
    obtain ⟨q1, q2, q3, q4⟩ : f ≤ t ∧ 0 ≤ f ∧ t ≤ 1048576 ∧ ids.length ≤ 1024 := by
      unfold slE at hE
      split at hE
      · rename_i hc
        obtain ⟨a1, _, a3, a4⟩ := chkM_zero hc
        split at hE
        · cases hE
        · rename_i hr; omega
      · rename_i hc; exact absurd hE hc
    have HBd := Lib.hid (fun p hp => slK_bd (f := f) (t := t) (l := ids) ids.length (Nat.le_refl _) p hp)
    have HAll : Hid (ids.all okId = true) := Lib.hid (by
      unfold slE at hE
      split at hE
      · rename_i hc; exact (chkM_zero hc).2.1
      · rename_i hc; exact absurd hE hc)
    have HRE := Lib.hid (show rangeE l n ids f t = rgE l ids (slK f t ids ids.length) by unfold rangeE; rw [if_pos hE])
    have HRB := Lib.hid (show rangeB l n ids f t = if rgE l ids (slK f t ids ids.length) = 0 then rgB l ids (slK f t ids ids.length) else [] by unfold rangeB; rw [HRE.out])
    have hplen := slK_len f t ids ids.length
    rw [hsl] at hps
    rw [hE, hsl]
    clear hE hsl
    generalize slK f t ids ids.length = ps at *
    go_wp2_with fail
    have HNS := Lib.hid (newShelf_any L lc B l w2 hl1 hB1 hlm Hok.out)
    refine HNS.out.mono ?_
    rintro e w3 ⟨b1, b2, rfl, hM1, hM2, hbl1, hbl2, hb⟩
    have hgl := hC.lt
    replace hC := hC.of hb
    replace hr1 := hr1.below hb hB1
    replace hl1 := hl1.below hb hB1
    replace hp1 := hp1.below hb hB1
    replace hB1 := Nat.le_trans hB1 hb.size
    replace gA := gA.trans hb
    have hps3 := own_below hps hb
    have hgs := Blk.new w3 94 #[.map (some b1), .map (some b2)]
    have gD := grew_alloc w3 (.cells #[.map (some b1), .map (some b2)] 94)
    replace hC := hC.of gD
    replace hr1 := hr1.below gD hB1
    replace hl1 := hl1.below gD hB1
    replace hp1 := hp1.below gD hB1
    replace hB1 := Nat.le_trans hB1 gD.size
    replace gA := gA.trans gD
    have hps4 := own_below hps3 gD
    replace hM1 := hM1.of gD
    replace hM2 := hM2.of gD
    have hb12 : b1 ≠ b2 := by omega
    have hBb : B ≤ b2 := by omega
    obtain ⟨N, hN⟩ : ∃ N : Nat, t - f = (N : Int) := ⟨(t - f).toNat, by omega⟩
    have hN2 : N ≤ 1048576 := by omega
    obtain ⟨i0, hi, hz0, hz1, hz2⟩ := info_parts (show (Try.prog.info? 5).map (fun i => (i.zero, i.size, i.bytes)) = some (some (.int .u8 0), 1, 1) from by kernel_rfl)
    clear hb HNS hps hps3 gD
    go_upto_region 5 with (fail)
    generalize w3.alloc (.cells #[.map (some b1), .map (some b2)] 94) = wp at *
    generalize w3.heap.size = gs at *
    go_wp2_with (at_make; refine wpList_make_own _ rfl (.const (.int .i64 0)) (.tmp 32) 34 rfl wp.heap.size 5 i0 (.int .u8 0) 1 Try.underlying34 hi hz0 hz1 .i64 .i64 _ N rfl rfl rfl (by rw [hz2]; omega) (by unfold maxLen; omega) (Nat.le_refl _) ?_; intro w4 hown4 hgrow)
    have gk4 : Grew wp w4 := (Below.refl _ _).grown hgrow (Nat.le_refl _) (by simp)
    have hk4 : Ch (At b2) wp w4 := Ch.of_below gk4
    clear hgrow hN hi hz0 hz1 hz2
    have hne2 := hM2.ne_own hps4
    have hnc := Ne.symm (hM2.ne_blk hC)
    have hns := Ne.symm (hM2.ne_blk hgs)
    go_loopw [13, 36] (fun v i wr => ∃ (k : Nat) (A5 : Option Addr) (c5 : Nat) (g : IdZ → Option Value), k ≤ ps.length ∧ i = .int .i64 k ∧ v = .slice A5 (rgB l ids (ps.take k)).length c5 ∧ Hid (∀ j (h : j < ps.length), j < k → pcE l ids ps[j] = 0) ∧ (rgB l ids (ps.take k)).length ≤ 1048576 * k ∧
      wr.ownsRow wp.heap.size 5 1 (.slice A5 (rgB l ids (ps.take k)).length c5) (rgB l ids (ps.take k)).length ((rgB l ids (ps.take k)).map (.int .u8)) ∧ MapIs wr b2 k g ∧ SoundOk l g ∧ Ch (At b2) wp wr) (fun _ i _ => ps.length - (intOf i).toNat)
    case atStart => exact ⟨0, _, N, _, Nat.zero_le _, rfl, rfl, Lib.hid (fun j h h' => absurd h' (Nat.not_lt_zero _)), Nat.zero_le _, hown4, hM2.of gk4, SoundOk.none, hk4⟩
    case round =>
      clear hown4 hk4 gk4
      obtain ⟨k, A5, c5, g, hk, rfl, rfl, HP, hbl, hown, hM2r, hg, hch⟩ := hrel
      have hwr := hch.size
      by_cases hlt : k < ps.length
      · have hpsr := own_ch hps4 hch (fun i hi h => hne2 (by rw [hi]; exact congrArg some h))
        obtain ⟨ad, rfl, hbk, d0, d1, d2⟩ := pcs_at (own_row hpsr) hlt
        obtain ⟨i, a, c, hpe, hil, hac, hcn⟩ := HBd.out ps[k] (List.getElem_mem hlt)
        have hRt := Lib.hid (rgB_take (l := l) (ids := ids) hlt)
        have hRAt := Lib.hid (rgE_at (l := l) (ids := ids) hlt HP.out)
        have HPk := Lib.hid (fun (h0 : pcE l ids ps[k] = 0) j (h : j < ps.length) (hj : j < k + 1) => (show pcE l ids ps[j] = 0 by
          rcases Nat.lt_succ_iff_lt_or_eq.1 hj with h1 | h1
          · exact HP.out j h h1
          · subst h1; exact h0))
        rw [hpe] at d0 d1 d2 hRt hRAt HPk
        simp only at d0 d1 d2
        have hC5 := hC.ch hch hnc
        have hg5 := hgs.ch hch hns
        have hr5 := hr1.ch hch hB1 (fun j hj => by have h' : j = b2 := hj; omega)
        have hl5 : LieC wr B l := fun q hq => (hp1 q hq).ch hch hB1 (fun j hj => by have h' : j = b2 := hj; omega)
        have hM5 := hM1.ch hch (by show ¬ b1 = b2; exact hb12)
        obtain ⟨ad2, rfl, hbk2, x0, x1⟩ := ids_at hr5 hil
        have hwx := Hw.out ids[i] (List.getElem_mem hil)
        have hx8 := (ok_at HAll.out hil).2
        have hgd : ids.getD i (0, 0) = ids[i] := by rw [List.getD_eq_getElem?_getD, List.getElem?_eq_getElem hil]; rfl
        have hpE : pcE l ids (i, (a : Int), (c : Int)) = fndE l ids[i] := by unfold pcE; rw [hgd]
        have hpB : pcB l ids (i, (a : Int), (c : Int)) = ((fndP l ids[i]).zs.drop a).take (c - a) := by unfold pcB; rw [hgd]; simp only [Int.toNat_natCast]; rw [show ((c : Int) - a).toNat = c - a by omega]
        rw [hpE] at hRAt HPk
        rw [hpB] at hRt
        clear hgd hpE hpB hpe HP
        generalize ids[i] = x at *
        obtain ⟨xs, xn⟩ := x
        simp only at x0 x1 hcn hx8
        have hil2 : (i : Int) < (ids.length : Int) := by omega
        have hX := Blk.new wr 48 #[.int .i64 i, .int .i64 a, .int .i64 c]
        have gX := grew_alloc wr (.cells #[.int .i64 i, .int .i64 a, .int .i64 c] 48)
        replace hC5 := hC5.of gX
        replace hg5 := hg5.of gX
        replace hM5 := hM5.of gX
        replace hM2r := hM2r.of gX
        replace hl5 := hl5.below gX (Nat.le_trans hB1 hwr)
        replace x0 := cell_up gX x0
        replace x1 := cell_up gX x1
        replace hown := own_below hown gX
        have hch0 := hch.size
        replace hch := hch.next gX
        replace hwr := Nat.le_trans hwr gX.size
        clear gX hr5
        have hMlt := hM2r.lt
        have hnk : ¬ At b2 wr.heap.size := by show ¬ wr.heap.size = b2; have h1 := hM2.lt; have h2 := hch0; omega
        go_upto_region 9 with (fail)
        have cc1 := (hC5.cell 1).trans (show _ = some (.slice (some ad2) ids.length cap) from rfl)
        have gs0 := (hg5.cell 0).trans (show _ = some (.map (some b1)) from rfl)
        have gs1 := (hg5.cell 1).trans (show _ = some (.map (some b2)) from rfl)
        have p0 := (hX.cell 0).trans (show _ = some (.int .i64 (i : Nat)) from rfl)
        have hnx : ¬ At b2 (ad2.add (i * 2)).block := by rw [add_block]; show ¬ ad2.block = b2; omega
        have HBy0 := Lib.hid (fun W (h : Grew (wr.alloc (.cells #[.int .i64 i, .int .i64 a, .int .i64 c] 48)) W) => shelfBytes_any b1 b2 l.length k B l (xs, xn) g W (hM5.of h) (hM2r.of h) hg (by unfold maxLen; omega) (hl5.below h (Nat.le_trans hB1 hwr)) (Nat.le_trans (Nat.le_trans hB1 hwr) h.size) Hok.out hwx)
        generalize wr.alloc (.cells #[.int .i64 i, .int .i64 a, .int .i64 c] 48) = wk at *
        generalize wr.heap.size = gk at *
        clear d0 d1 d2
        by_cases hz : fndE l (xs, xn) = 0
        · obtain ⟨ch, _, hmem, hidd, hfp, hlen⟩ := fnd_len hz
          have HBy := HBy0
          unfold BytesRes at HBy
          rw [hfp, hz] at HBy
          rw [hfp] at hRt
          have HP2 := Lib.hid (HPk.out hz)
          obtain ⟨_, hzb, hzc, hzl⟩ := Hok.out ch hmem
          have hrow := hl5 ch hmem
          simp only at hlen
          clear hfp hz hidd HBy0 HPk hRAt
          obtain ⟨⟨cs, cn⟩, ⟨pA, pc, zs⟩⟩ := ch
          simp only at hlen hzb hzc hzl hrow hRt
          unfold Part.v at HBy
          simp only at HBy
          refine wp_region_cls (Ch (At b2) wk) 12 (by kernel_rfl) ?_
          have hc0 := (Ch.refl (At b2) wk).drew
          refine AllC.head 0 7 (fuel := 6) (by first | exact fun h k => Grew.trans h k | exact fun h k => cls_grew h k) (hc0) (by rfl) (by kernel_rfl) ?_
          simp only [List.take_succ_cons, List.take_zero, List.drop_succ_cons, List.drop_zero]
          repeat (first
            | (refine HeadC.val (by rfl) ?_
               apply Exists.intro
               refine ⟨fun w' hw' => ?_, ?_⟩
               · (have hf_0 := hw'.cell cc1 hnc; have hf_1 := hw'.cell gs0 hns; have hf_2 := hw'.cell gs1 hns; have hf_3 := hw'.cell p0 hnk; have hf_4 := hw'.cell x0 hnx; have hf_5 := hw'.cell x1 hnx; (go_simp) <;> (try go_ints) <;> with_reducible rfl)
               try simp only [Act.put, List.setIfInBounds_toArray, List.set_cons_zero, List.set_cons_succ])
            | (refine HeadC.shut (by rfl) ?_
               try simp only [Act.put, List.setIfInBounds_toArray, List.set_cons_zero, List.set_cons_succ]))
          refine HeadC.nil ?_
          refine AllC.one 7 (by kernel_rfl) rfl ?_
          intro wg hg' K hK
          go_simp
          have hg0 := (grew_drew wk).trans hg'
          refine (HBy.out wg hg0).mono ?_
          rintro e w6 ⟨rfl, ⟨g2, hM6, hg2⟩, hc6⟩
          have hc7 : Ch (At b2) wk w6 := (Ch.of_below hg0).trans hc6
          refine hK.out _ _ hc7 ?_
          clear hK K hg' hg0 hc6 hc0
          try simp only [Act.put, List.setIfInBounds_toArray, List.set_cons_zero, List.set_cons_succ]
          refine AllC.head 8 4 (fuel := 1) (by first | exact fun h k => Grew.trans h k | exact fun h k => cls_grew h k) (hc7) (by rfl) (by kernel_rfl) ?_
          simp only [List.take_succ_cons, List.take_zero, List.drop_succ_cons, List.drop_zero]
          repeat (first
            | (refine HeadC.val (by rfl) ?_
               apply Exists.intro
               refine ⟨fun w' hw' => ?_, ?_⟩
               · ((go_simp) <;> (try go_ints) <;> with_reducible rfl)
               try simp only [Act.put, List.setIfInBounds_toArray, List.set_cons_zero, List.set_cons_succ])
            | (refine HeadC.shut (by rfl) ?_
               try simp only [Act.put, List.setIfInBounds_toArray, List.set_cons_zero, List.set_cons_succ]))
          refine HeadC.nil ?_
          refine AllC.tail 12 (by rfl) (by kernel_rfl) ?_
          intro wt hwt
          simp only [List.drop_succ_cons, List.drop_zero]
          have hc8 := hc7.next hwt
          have hM8 := hM6.of hwt
          have hrow8 : Row wt B pA (zs.map (.int .u8)) := hrow.ch hc8 (Nat.le_trans hB1 hwr) (fun j hj => by have h' : j = b2 := hj; omega)
          obtain ⟨adz, rfl, hbz, _⟩ := hrow8.at_ (k := a) (by rw [List.length_map]; omega)
          have hca : ¬ pc = a := by omega
          have hrc := hrow8.cut' (lo := a) (m := c - a) (cap := pc) (by omega)
          rw [if_neg hca, ← List.map_drop, ← List.map_take] at hrc
          have hll : ((zs.drop a).take (c - a)).length = c - a := by rw [List.length_take, List.length_drop]; omega
          have hlm : (((zs.drop a).take (c - a)).map (Value.int .u8)).length = (c - a) * 1 := by rw [List.length_map, hll, Nat.mul_one]
          have HLL := Lib.hid hll
          have hX8 := hX.ch hc8 hnk
          have p1 := (hX8.cell 1).trans (show _ = some (.int .i64 (a : Nat)) from rfl)
          have p2 := (hX8.cell 2).trans (show _ = some (.int .i64 (c : Nat)) from rfl)
          have hown8 := own_ch hown hc8 (fun j hj h => by have h1 := own_lt hown j hj; have h' : j = b2 := h; have := hM2.lt; omega)
          have hch8 := hch.trans hc8
          have hca2 : (a : Int) ≤ c := by omega
          have hcc2 : (c : Int) ≤ pc := by omega
          have hcn8 : c - a ≤ 1048576 := by omega
          clear hll cc1 gs0 gs1 p0 x0 x1 hwt hc7 hc8 hM6 hX8
          generalize (zs.drop a).take (c - a) = ys at *
          go_wp2_with (at_builtin; refine wpList_append_row rfl (.tmp 54) (.tmp 60) rfl wp.heap.size elem_u8 (by rfl) hown8 B (by rfl) hlm hrc (ones_u8 _) (by unfold maxLen; omega) (by omega) (by have := hch8.size; omega) ?_; intro A9 c9 w9 hown9 hg9 _; have hch9 : Ch (At b2) wp w9 := hch8.nextNew (Ch.of_own hg9) (fun j hj => .inl (own_lt hown8 j hj)); have hM9 := hM8.ch (Ch.of_own hg9) (hM8.ne_own hown8))
          go_roundw
          case rel =>
            refine ⟨k + 1, A9, c9, g2, by omega, by go_num, ?_, Lib.hid HP2.out, ?_, ?_, hM9, hg2, hch9⟩
            · rw [hRt.out, List.length_append, HLL.out]
            · rw [hRt.out, List.length_append, HLL.out]; omega
            · rw [hRt.out, List.length_append, List.map_append, HLL.out]; exact hown9
          case measure => simp [intOf]; omega
        · have HN := Lib.hid hz
          have hne : (fndE l (xs, xn) != 0) = true := by rw [bne_iff_ne]; exact hz
          have HR := Lib.hid (hRAt.out hz)
          have HBy := HBy0
          unfold BytesRes at HBy
          clear HBy0 HPk hRAt hRt hz
          generalize fndE l (xs, xn) = er at *
          generalize (fndP l (xs, xn)).v = pv at *
          refine wp_region_cls (Ch (At b2) wk) 12 (by kernel_rfl) ?_
          have hc0 := (Ch.refl (At b2) wk).drew
          refine AllC.head 0 7 (fuel := 6) (by first | exact fun h k => Grew.trans h k | exact fun h k => cls_grew h k) (hc0) (by rfl) (by kernel_rfl) ?_
          simp only [List.take_succ_cons, List.take_zero, List.drop_succ_cons, List.drop_zero]
          repeat (first
            | (refine HeadC.val (by rfl) ?_
               apply Exists.intro
               refine ⟨fun w' hw' => ?_, ?_⟩
               · (have hf_0 := hw'.cell cc1 hnc; have hf_1 := hw'.cell gs0 hns; have hf_2 := hw'.cell gs1 hns; have hf_3 := hw'.cell p0 hnk; have hf_4 := hw'.cell x0 hnx; have hf_5 := hw'.cell x1 hnx; (go_simp) <;> (try go_ints) <;> with_reducible rfl)
               try simp only [Act.put, List.setIfInBounds_toArray, List.set_cons_zero, List.set_cons_succ])
            | (refine HeadC.shut (by rfl) ?_
               try simp only [Act.put, List.setIfInBounds_toArray, List.set_cons_zero, List.set_cons_succ]))
          refine HeadC.nil ?_
          refine AllC.one 7 (by kernel_rfl) rfl ?_
          intro wg hg' K hK
          go_simp
          have hg0 := (grew_drew wk).trans hg'
          refine (HBy.out wg hg0).mono ?_
          rintro e w6 ⟨rfl, ⟨g2, hM6, hg2⟩, hc6⟩
          have hc7 : Ch (At b2) wk w6 := (Ch.of_below hg0).trans hc6
          refine hK.out _ _ hc7 ?_
          clear hK K hg' hg0 hc6 hc0
          try simp only [Act.put, List.setIfInBounds_toArray, List.set_cons_zero, List.set_cons_succ]
          refine AllC.head 8 4 (fuel := 1) (by first | exact fun h k => Grew.trans h k | exact fun h k => cls_grew h k) (hc7) (by rfl) (by kernel_rfl) ?_
          simp only [List.take_succ_cons, List.take_zero, List.drop_succ_cons, List.drop_zero]
          repeat (first
            | (refine HeadC.val (by rfl) ?_
               apply Exists.intro
               refine ⟨fun w' hw' => ?_, ?_⟩
               · ((go_simp) <;> (try go_ints) <;> with_reducible rfl)
               try simp only [Act.put, List.setIfInBounds_toArray, List.set_cons_zero, List.set_cons_succ])
            | (refine HeadC.shut (by rfl) ?_
               try simp only [Act.put, List.setIfInBounds_toArray, List.set_cons_zero, List.set_cons_succ]))
          refine HeadC.nil ?_
          refine AllC.tail 12 (by rfl) (by kernel_rfl) ?_
          intro wt hwt
          simp only [List.drop_succ_cons, List.drop_zero]
          have hc8 := hc7.next hwt
          have hM8 := hM6.of hwt
          go_wp2_with fail
          go_ret2
          have hfin : Below w.heap.size w wt := Below.trans (B := w.heap.size) gA ((hch.trans hc8).below gA.size (fun j hj => by have h' : j = b2 := hj; rw [HGc.out]; omega))
          have e1 : rangeE l n ids f t = er := by rw [HRE.out, HR.out]
          have e2 : rangeB l n ids f t = [] := by rw [HRB.out, HR.out, if_neg HN.out]
          refine ⟨none, 0, ?_, ?_, hfin⟩
          · rw [e1, e2]; rfl
          · rw [e2]; exact World.ownsRow_nil _ _ _ _
      · obtain rfl : k = ps.length := by omega
        have e0 := rgE_ok (l := l) (ids := ids) (ps := ps) (fun j h => HP.out j h h)
        have HE1 := Lib.hid (show rangeE l n ids f t = 0 by rw [HRE.out, e0])
        have HE2 := Lib.hid (show rangeB l n ids f t = rgB l ids ps by rw [HRB.out, e0, if_pos rfl])
        rw [List.take_length] at hown ⊢
        clear e0 hbl
        go_wp2_with fail
        go_ret2
        have hfin : Below w.heap.size w wr := Below.trans (B := w.heap.size) gA (hch.below gA.size (fun j hj => by have h' : j = b2 := hj; rw [HGc.out]; omega))
        refine ⟨A5, c5, ?_, ?_, hfin⟩
        · rw [HE1.out, HE2.out]; rfl
        · rw [HE2.out]; exact own_mono hown gA.size
  · have HN := Lib.hid hE
    have HRE := Lib.hid (show rangeE l n ids f t = slE n ids f t by unfold rangeE; rw [if_neg hE])
    have HRB := Lib.hid (show rangeB l n ids f t = [] by unfold rangeB; rw [HRE.out, if_neg hE])
    have hne : (slE n ids f t != 0) = true := by rw [bne_iff_ne]; exact hE
    clear hE
    generalize slE n ids f t = er at *
    go_wp2_with fail
    go_ret2
    refine ⟨none, 0, ?_, ?_, gA⟩
    · rw [HRB.out, HRE.out]; rfl
    · rw [HRB.out]; exact World.ownsRow_nil _ _ _ _
end

/- Leb:
  codec.PutUint: numbers as bytes of seven bits, the lowest first.
-/
section
set_option linter.unusedVariables false
set_option linter.unusedSimpArgs false
set_option linter.unnecessarySimpa false
open Go.RowKit
attribute [local go_sem ↓] Go.wp_at_zero Go.wp_at_succ

def leb : Nat → Nat → List Int
  | 0, _ => []
  | f + 1, n => if n < 128 then [(n : Int)] else ((128 + n % 128 : Nat) : Int) :: leb f (n / 128)
def lebN (n : Nat) : List Int := leb 10 n
theorem leb_small {f m : Nat} (h : m < 128) (hf : 1 ≤ f) : leb f m = [(m : Int)] := by
  obtain ⟨f, rfl⟩ : ∃ g, f = g + 1 := ⟨f - 1, by omega⟩
  rw [leb, if_pos h]
theorem leb_big {f m : Nat} (h : 128 ≤ m) (hf : 1 ≤ f) : leb f m = ((128 + m % 128 : Nat) : Int) :: leb (f - 1) (m / 128) := by
  obtain ⟨f, rfl⟩ : ∃ g, f = g + 1 := ⟨f - 1, by omega⟩
  rw [leb, if_neg (by omega)]
  rfl
/-- dn is put, m with f digits is to come -/
structure LebI (n m f : Nat) (dn : List Int) : Prop where
  eq : dn ++ leb f m = lebN n
  f1 : 1 ≤ f
  lt : m < 128 ^ f
  len : dn.length + f = 10
theorem LebI.zero {n : Nat} (h : n < 18446744073709551616) : LebI n n 10 [] := by
  have h1 : (128 : Nat) ^ 10 = 1180591620717411303424 := by decide
  exact ⟨rfl, by decide, by rw [h1]; omega, rfl⟩
theorem LebI.two {n m f : Nat} {dn : List Int} (h : LebI n m f dn) (hm : 128 ≤ m) : 2 ≤ f := by
  have h1 := h.f1
  have h2 := h.lt
  rcases Nat.lt_or_ge f 2 with h3 | h3
  · obtain rfl : f = 1 := by omega
    omega
  · exact h3
theorem LebI.step {n m f : Nat} {dn : List Int} (h : LebI n m f dn) (hm : 128 ≤ m) : LebI n (m / 128) (f - 1) (dn ++ [((128 + m % 128 : Nat) : Int)]) := by
  have h2 := h.two hm
  have hl := h.lt
  refine ⟨?_, by omega, ?_, by rw [List.length_append, List.length_singleton]; have := h.len; omega⟩
  · rw [List.append_assoc, ← h.eq, leb_big hm h.f1]; rfl
  · obtain ⟨g, rfl⟩ : ∃ g, f = g + 1 := ⟨f - 1, by omega⟩
    rw [Nat.pow_succ] at hl
    rw [Nat.add_sub_cancel]
    exact Nat.div_lt_of_lt_mul (by rw [Nat.mul_comm]; exact hl)
theorem LebI.done {n m f : Nat} {dn : List Int} (h : LebI n m f dn) (hm : m < 128) : lebN n = dn ++ [(m : Int)] := by rw [← h.eq, leb_small hm h.f1]
theorem leb_len : ∀ f n, (leb f n).length ≤ f
  | 0, _ => Nat.le_refl _
  | f + 1, n => by
    rw [leb]
    split
    · simp
    · simp only [List.length_cons]; have := leb_len f (n / 128); omega
theorem leb_byt : ∀ f n, Byt (leb f n)
  | 0, _ => fun z hz => by simp [leb] at hz
  | f + 1, n => fun z hz => by
    rw [leb] at hz
    split at hz
    · rw [List.mem_singleton] at hz; omega
    · rcases List.mem_cons.1 hz with hz | hz
      · omega
      · exact leb_byt f _ z hz
theorem and127 (m : Nat) (h : m < 18446744073709551616) : bits .and .u64 (m : Int) 127 = ((m % 128 : Nat) : Int) := by
  have h1 := bits_and_u64_nat m 127 h (by omega)
  have e : m &&& 127 = m % 128 := Nat.and_two_pow_sub_one_eq_mod m 7
  rw [e] at h1
  exact h1
theorem or128 (m : Nat) : bits .or .u64 ((m % 128 : Nat) : Int) 128 = ((128 + m % 128 : Nat) : Int) := by
  have h1 := bits_or_u64_nat (m % 128) 128 (by omega) (by omega)
  have e : m % 128 ||| 128 = 128 + m % 128 := by
    have := Nat.two_pow_add_eq_or_of_lt (i := 7) (b := m % 128) (by omega) 1
    rw [Nat.or_comm]
    simpa using this.symm
  rw [e] at h1
  exact h1

/-- bytes behind those of H -/
def LebRes (base : Nat) (H : Value) (l : List Int) (w : World) (e : Ending) (w' : World) : Prop := ∃ A cap, e = .returned (.slice A l.length cap) ∧ w'.ownsRow base 5 1 (.slice A l.length cap) l.length (l.map (.int .u8)) ∧ Ch (fun k => H.ownBlock = some k) w w'
set_option maxRecDepth 100000 in
set_option maxHeartbeats 1000000 in
theorem appendUint_any (n base : Nat) (H : Value) (bs : List Int) (w : World) (hown : w.ownsRow base 5 1 H bs.length (bs.map (.int .u8))) (hn : n < 18446744073709551616) (hbase : base ≤ w.heap.size) (hm : bs.length ≤ 1048576) :
    Calls Try.prog 77 #[H, .int .u64 n] w (LebRes base H (bs ++ lebN n) w) := by
  obtain ⟨A0, c0, rfl, _⟩ := own_form hown
  go_enter Try.func77, Try.ntmps77
  go_wp2_with fail
  go_loopw [0, 1] (fun v i wr => ∃ (m f : Nat) (dn : List Int) (A1 : Option Addr) (c1 : Nat), i = .int .u64 m ∧ Hid (LebI n m f dn) ∧ m ≤ n ∧ dn.length ≤ 10 ∧ v = .slice A1 (bs ++ dn).length c1 ∧ wr.ownsRow base 5 1 (.slice A1 (bs ++ dn).length c1) (bs ++ dn).length ((bs ++ dn).map (.int .u8)) ∧ Ch (fun k => (Value.slice A0 bs.length c0).ownBlock = some k) w wr ∧ ((Value.slice A1 (bs ++ dn).length c1).ownBlock = (Value.slice A0 bs.length c0).ownBlock ∨ ∀ k, (Value.slice A1 (bs ++ dn).length c1).ownBlock = some k → w.heap.size ≤ k)) (fun _ i _ => (intOf i).toNat)
  case atStart => exact ⟨n, 10, [], A0, c0, rfl, Lib.hid (LebI.zero hn), Nat.le_refl _, by simp, by rw [List.append_nil], by rw [List.append_nil]; exact hown, Ch.refl _ _, .inl (by rw [List.append_nil])⟩
  case round =>
    clear hown
    obtain ⟨m, f, dn, A1, c1, rfl, HI, hmn, hdl, rfl, hown, hch, hor⟩ := hrel
    have HL : Hid ((bs ++ dn).length = bs.length + dn.length) := Lib.hid List.length_append
    generalize hq : bs ++ dn = q at *
    have HQ := Lib.hid hq
    have hql : q.length ≤ 1048586 := by rw [HL.out]; omega
    clear hq
    have hws := hch.size
    by_cases hm : 128 ≤ m
    · have hmI : (128 : Int) ≤ (m : Int) := by omega
      have hA := and127 m (by omega)
      have hO := or128 m
      have hlt : (128 + m % 128 : Nat) ≤ 255 := by omega
      generalize hr : (128 + m % 128 : Nat) = r at *
      generalize h7 : (m % 128 : Nat) = r7 at *
      have H7 := Lib.hid h7
      clear h7
      have HR := Lib.hid hr
      have hw8 : IntKind.u8.wrap (r : Int) = r := Go.IntWalk.u8_in _ (by omega)
      clear hr
      go_wp2_with (at_builtin; refine wpList_append_row rfl (.tmp 9) (.tmp 14) rfl base elem_u8 (by rfl) (hown.alloc _) _ (by rfl) (by rfl) (Blk.row (Blk.new wr 5 #[.int .u8 (r : Int)])) (by simp [Value.oneCell']) (by unfold maxLen; omega) (by omega) (by simp; omega) ?_; intro A3 c3 w3 hown3 hg3 hwh3)
      go_roundw
      case rel =>
        have hs := HI.out.step hm
        rw [H7.out, HR.out] at hs
        have hdl2 := hs.len
        have hf2 := hs.f1
        have hga : Ch (fun k => (Value.slice A0 bs.length c0).ownBlock = some k) w (wr.alloc (.cells #[.int .u8 (r : Int)] 5)) := hch.alloc _
        refine ⟨m / 128, f - 1, dn ++ [(r : Int)], A3, c3, by go_num, Lib.hid hs, by omega, by omega, ?_, ?_, hga.nextNew (Ch.of_own hg3) (fun i hi => hor.elim (fun h => .inr (by rw [← h]; exact hi)) (fun h => .inl (h i hi))), ?_⟩
        · rw [← List.append_assoc, HQ.out, List.length_append]; rfl
        · rw [← List.append_assoc, HQ.out, List.length_append, List.map_append]; exact hown3
        · rw [← List.append_assoc, HQ.out, List.length_append]
          rcases hwh3 with h | h
          · exact hor.elim (fun h2 => .inl (h.trans h2)) (fun h2 => .inr (fun k hk => h2 k (h ▸ hk)))
          · refine .inr (fun k hk => ?_)
            have hk' := h.symm.trans hk
            injection hk' with hk'
            have := hga.size
            omega
      case measure => simp [intOf]; omega
    · have hw8 : IntKind.u8.wrap (m : Int) = m := Go.IntWalk.u8_in _ (by omega)
      have hmI : (m : Int) < 128 := by omega
      go_wp2_with (at_builtin; refine wpList_append_row rfl (.tmp 16) (.tmp 19) rfl base elem_u8 (by rfl) (hown.alloc _) _ (by rfl) (by rfl) (Blk.row (Blk.new wr 5 #[.int .u8 (m : Int)])) (by simp [Value.oneCell']) (by unfold maxLen; omega) (by omega) (by simp; omega) ?_; intro A3 c3 w3 hown3 hg3 hwh3)
      go_ret
      have hd := HI.out.done (by omega)
      have hga : Ch (fun k => (Value.slice A0 bs.length c0).ownBlock = some k) w (wr.alloc (.cells #[.int .u8 (m : Int)] 5)) := hch.alloc _
      rw [hd, ← List.append_assoc, HQ.out]
      refine ⟨A3, c3, by rw [List.length_append]; rfl, ?_, hga.nextNew (Ch.of_own hg3) (fun i hi => hor.elim (fun h => .inr (by rw [← h]; exact hi)) (fun h => .inl (h i hi)))⟩
      rw [List.length_append, List.map_append]
      exact hown3

set_option maxRecDepth 100000 in
set_option maxHeartbeats 1000000 in
theorem uintSize_any (n : Nat) (w : World) (hn : n < 18446744073709551616) :
    Calls Try.prog 79 #[.int .u64 n] w fun e w' => (∃ s : Nat, s ≤ 11 ∧ e = .returned (.int .i64 s)) ∧ w = w' := by
  go_enter Try.func79, Try.ntmps79
  go_wp2_with fail
  go_loop [0, 3] (fun v i => ∃ m s f : Nat, v = .int .u64 m ∧ i = .int .i64 s ∧ s + f ≤ 11 ∧ m < 128 ^ f) (fun v _ => (intOf v).toNat)
  case atStart =>
    refine ⟨n / 128, 1, 9, by go_num, rfl, by omega, ?_⟩
    have h1 : (128 : Nat) ^ 9 = 9223372036854775808 := by decide
    rw [h1]
    omega
  case round =>
    obtain ⟨m, s, f, rfl, rfl, hs, hm⟩ := hrel
    by_cases h0 : 0 < m
    · have hI : (0 : Int) < (m : Int) := by omega
      obtain ⟨f, rfl⟩ : ∃ g, f = g + 1 := ⟨f - 1, by
        rcases Nat.eq_zero_or_pos f with h | h
        · subst h; simp at hm; omega
        · omega⟩
      have hm2 : m / 128 < 128 ^ f := Nat.div_lt_of_lt_mul (by rw [Nat.mul_comm, ← Nat.pow_succ]; exact hm)
      have HM := Lib.hid hm2
      clear hm hm2
      go_wp2_with fail
      go_round
      case rel => exact ⟨m / 128, s + 1, f, by go_num, by go_num, by omega, HM.out⟩
      case measure => simp [intOf]; omega
    · obtain rfl : m = 0 := by omega
      clear hm
      go_wp2_with fail
      go_ret
      exact ⟨⟨s, by omega, rfl⟩, rfl⟩

set_option maxRecDepth 100000 in
set_option maxHeartbeats 1000000 in
theorem extendedNil_any (s : Nat) (w : World) (hs : s ≤ 1048576) :
    Calls Try.prog 78 #[.slice none 0 0, .int .i64 s] w fun e w' => ∃ A cap, e = .returned (.slice A 0 cap) ∧ w'.ownsRow w.heap.size 5 1 (.slice A 0 cap) 0 [] ∧ Below w.heap.size w w' := by
  obtain ⟨i0, hi, hz0, hz1, hz2⟩ := info_parts (show (Try.prog.info? 5).map (fun i => (i.zero, i.size, i.bytes)) = some (some (.int .u8 0), 1, 1) from by kernel_rfl)
  go_enter Try.func78, Try.ntmps78
  go_wp2_with (first
    | (at_make; refine wpList_make_own _ rfl (.tmp 7) (.tmp 11) 34 rfl w.heap.size 5 i0 (.int .u8 0) 1 Try.underlying34 hi hz0 hz1 .i64 .i64 _ s rfl rfl rfl (by rw [hz2]; omega) (by unfold maxLen; omega) (Nat.le_refl _) ?_; intro w1 hown hgrow)
    | (refine wpList_copy_nothing rfl (.tmp 13) (.tmp 14) 34 34 rfl 5 Try.underlying34 (by kernel_rfl) _ none 0 s 0 0 rfl rfl rfl ?_))
  go_ret
  exact ⟨_, s, rfl, hown, (Below.refl _ _).grown hgrow (Nat.le_refl _) (by simp)⟩

set_option maxRecDepth 100000 in
set_option maxHeartbeats 1000000 in
theorem putUint_any (n : Nat) (w : World) (hn : n < 18446744073709551616) :
    Calls Try.prog 59 #[.slice none 0 0, .int .u64 n] w fun e w' => ∃ A cap, e = .returned (.slice A (lebN n).length cap) ∧ w'.ownsRow w.heap.size 5 1 (.slice A (lebN n).length cap) (lebN n).length ((lebN n).map (.int .u8)) ∧ Below w.heap.size w w' := by
  go_enter Try.func59, Try.ntmps59
  go_wp2_with fail
  refine (uintSize_any n w hn).mono ?_
  rintro e w1 ⟨⟨s, hs, rfl⟩, rfl⟩
  go_wp2_with fail
  refine (extendedNil_any s w (by omega)).mono ?_
  rintro e w2 ⟨A, cap, rfl, hown, hb⟩
  have HA := Lib.hid (appendUint_any n w.heap.size (.slice A 0 cap) [] w2 hown hn hb.size (by simp))
  go_wp2_with fail
  refine HA.out.mono ?_
  rintro e w3 ⟨A3, c3, rfl, hown3, hch⟩
  rw [List.nil_append] at hown3 ⊢
  go_wp2_with fail
  go_ret
  exact ⟨A3, c3, rfl, hown3, Below.trans (B := w.heap.size) hb (hch.below hb.size (own_lt hown))⟩
end

/- Enc25:
  manifest.Encode.
-/
section
set_option linter.unusedVariables false
set_option linter.unusedSimpArgs false
set_option linter.unnecessarySimpa false
open Go.RowKit
attribute [local go_sem ↓] Go.wp_at_zero Go.wp_at_succ

theorem own_lit (w : World) (base : Nat) (e : TypeId) (cs : Array Value) (hb : base ≤ w.heap.size) (hm : cs.size ≤ maxLen) : (w.alloc (.cells cs e)).ownsRow base e 1 (.slice (some ⟨w.heap.size, 0, none⟩) cs.size cs.size) cs.size cs.toList :=
  ⟨by simp, .inr ⟨w.heap.size, cs.size, cs, rfl, hb, heap_alloc_new w _, Nat.le_refl _, hm, by simp, by rw [Nat.mul_one]; exact List.take_of_length_le (by simp)⟩⟩
/-- the numbers of a manifest's encoding -/
def idN (x : IdZ) : List Nat := [x.2.toNat, x.1.toNat]
def numsN (n : Nat) (len : Nat) (ids : List IdZ) : List Nat := n :: len :: ids.flatMap idN
def natU (l : List Nat) : List Value := l.map fun n : Nat => Value.int .u64 (n : Int)
theorem natU_append (l m : List Nat) : natU (l ++ m) = natU l ++ natU m := by simp [natU]
theorem natU_length (l : List Nat) : (natU l).length = l.length := by simp [natU]
theorem ones_natU (l : List Nat) : ∀ u ∈ natU l, u.oneCell' = true := by
  intro u hu
  obtain ⟨x, _, rfl⟩ := List.mem_map.1 hu
  rfl
theorem numsN_take {n len : Nat} {ids : List IdZ} {k : Nat} (h : k < ids.length) : numsN n len (ids.take (k + 1)) = numsN n len (ids.take k) ++ idN ids[k] := by
  unfold numsN; rw [List.take_succ_eq_append_getElem h, List.flatMap_append]; simp
theorem numsN_len (n len : Nat) (ids : List IdZ) : (numsN n len ids).length = 2 + 2 * ids.length := by
  unfold numsN
  have : (ids.flatMap idN).length = 2 * ids.length := by
    induction ids with
    | nil => rfl
    | cons x l ih => simp only [List.flatMap_cons, List.length_append, List.length_cons, ih, idN, List.length_nil]; omega
  simp only [List.length_cons, this]; omega
/-- numbers as bytes -/
def lebs (l : List Nat) : List Int := l.flatMap lebN
theorem lebs_take {l : List Nat} {k : Nat} (h : k < l.length) : lebs (l.take (k + 1)) = lebs (l.take k) ++ lebN l[k] := by
  unfold lebs; rw [List.take_succ_eq_append_getElem h, List.flatMap_append]; simp
theorem lebs_len (l : List Nat) : (lebs l).length ≤ 10 * l.length := by
  induction l with
  | nil => simp [lebs]
  | cons x l ih =>
    have := leb_len 10 x
    unfold lebs at ih ⊢
    simp only [List.flatMap_cons, List.length_append, List.length_cons]
    unfold lebN at ih ⊢
    omega
/-- element k of a row of numbers -/
theorem natU_at {w : World} {B : Nat} {A : Option Addr} {l : List Nat} (hr : Row w B A (natU l)) {k : Nat} (h : k < l.length) : ∃ ad : Addr, A = some ad ∧ ad.block < B ∧ w.cell? (ad.add k) = some (.int .u64 (l[k] : Int)) := by
  obtain ⟨ad, rfl, hb, hc⟩ := hr.at_ (k := k) (by rw [natU_length]; exact h)
  have e : (natU l)[k]'(by rw [natU_length]; exact h) = .int .u64 (l[k] : Int) := by simp [natU]
  rw [e] at hc
  exact ⟨ad, rfl, hb, hc⟩
theorem wfI_nat {x : IdZ} (hw : WfI x) (ho : okId x = true) : ∃ s m : Nat, x = ((s : Int), (m : Int)) ∧ s < 18446744073709551616 ∧ m ≤ 8192 := by
  obtain ⟨a, b⟩ := x
  obtain ⟨⟨h0, h1⟩, _⟩ := hw
  have hb := okId_bd ho
  simp only at h0 h1 hb
  exact ⟨a.toNat, b.toNat, by rw [Int.toNat_of_nonneg h0, Int.toNat_of_nonneg (by omega)], by omega, by omega⟩
theorem numsN_bd {n len : Nat} {ids : List IdZ} (hn : n ≤ 1048576) (hl : len ≤ 1048576) (hw : ∀ x ∈ ids, WfI x) (ho : ids.all okId = true) : ∀ z ∈ numsN n len ids, z < 18446744073709551616 := by
  intro z hz
  unfold numsN at hz
  rcases List.mem_cons.1 hz with rfl | hz
  · omega
  · rcases List.mem_cons.1 hz with rfl | hz
    · omega
    · obtain ⟨x, hx, hz⟩ := List.mem_flatMap.1 hz
      obtain ⟨s, m, rfl, h1, h2⟩ := wfI_nat (hw x hx) (List.all_eq_true.1 ho x hx)
      simp only [idN, Int.toNat_natCast, List.mem_cons, List.not_mem_nil, or_false] at hz
      omega
def encB (n : Int) (ids : List IdZ) : List Int := if chkM n ids = 0 then lebs (numsN n.toNat ids.length ids) else []
def EncRes (n : Int) (ids : List IdZ) (w : World) (e : Ending) (w' : World) : Prop := ∃ (A : Option Addr) (cap : Nat), e = .returned (.tuple #[.slice A (encB n ids).length cap, .int .i64 (chkM n ids)]) ∧
  w'.ownsRow w.heap.size 5 1 (.slice A (encB n ids).length cap) (encB n ids).length ((encB n ids).map (.int .u8)) ∧ Below w.heap.size w w'

set_option maxRecDepth 100000 in
set_option maxHeartbeats 2000000 in
theorem encode25_any (n : Int) (A : Option Addr) (cap B : Nat) (ids : List IdZ) (w : World) (hr : Row w B A (idsC ids)) (hw : ∀ x ∈ ids, WfI x) (hB : B ≤ w.heap.size) (hm : ids.length ≤ 9223372036854775807) :
    Calls Try.prog 36 #[.agg #[.int .i64 n, .slice A ids.length cap]] w (EncRes n ids w) := by
  have g0 := grew_alloc w (.cells #[.int .i64 n, .slice A ids.length cap] 31)
  have hC := Blk.new w 31 #[.int .i64 n, .slice A ids.length cap]
  have c0 := (hC.cell 0).trans (show _ = some (.int .i64 n) from rfl)
  have c1 := (hC.cell 1).trans (show _ = some (.slice A ids.length cap) from rfl)
  have hr0 := hr.below g0 hB
  have hB0 := Nat.le_trans hB g0.size
  have HC := Lib.hid (check25_any n A cap B ids _ hr0 hB0 hm)
  have Hw := Lib.hid hw
  clear hw
  go_enter Try.func36, Try.ntmps36
  go_wp2_with fail
  generalize w.alloc (.cells #[.int .i64 n, .slice A ids.length cap] 31) = w1 at *
  generalize hgc : w.heap.size = gc at *
  have HGc := Lib.hid hgc
  clear hgc
  refine HC.out.mono ?_
  rintro e w2 ⟨rfl, hb⟩
  replace hC := hC.of hb
  replace hr0 := hr0.below hb hB0
  replace hB0 := Nat.le_trans hB0 hb.size
  replace g0 := Grew.trans g0 hb
  clear hb HC c0 c1
  have c0 := (hC.cell 0).trans (show _ = some (.int .i64 n) from rfl)
  have c1 := (hC.cell 1).trans (show _ = some (.slice A ids.length cap) from rfl)
  by_cases he : chkM n ids = 0
  · obtain ⟨q1, q2, q3, q4⟩ := chkM_zero he
    have hn0 := (sumN_bd ids q2).1
    obtain ⟨N, rfl⟩ : ∃ N : Nat, n = (N : Int) := ⟨n.toNat, by omega⟩
    have hN : N ≤ 1048576 := by omega
    have HEB := Lib.hid (show encB (N : Int) ids = lebs (numsN N ids.length ids) by unfold encB; rw [if_pos he]; simp)
    have HE := Lib.hid he
    have HA := Lib.hid q2
    rw [he]
    clear he q2 q3 hn0
    go_upto_region 5 with (fail)
    have hown0 := own_lit w2 w2.heap.size 49 #[.int .u64 (N : Int), .int .u64 (ids.length : Int)] (Nat.le_refl _) (by unfold maxLen; simp)
    have g1 := grew_alloc w2 (.cells #[.int .u64 (N : Int), .int .u64 (ids.length : Int)] 49)
    replace hC := hC.of g1
    have hr1 := hr0.below g1 hB0
    have c1' := (hC.cell 1).trans (show _ = some (.slice A ids.length cap) from rfl)
    have hbb : Below w2.heap.size w2 (w2.alloc (.cells #[.int .u64 (N : Int), .int .u64 (ids.length : Int)] 49)) := g1
    have hs1 : w2.heap.size < (w2.alloc (.cells #[.int .u64 (N : Int), .int .u64 (ids.length : Int)] 49)).heap.size := by simp
    clear hr0 c0 c1 g1
    generalize w2.alloc (.cells #[.int .u64 (N : Int), .int .u64 (ids.length : Int)] 49) = w3 at *
    generalize hg2 : w2.heap.size = g2 at *
    have HG2 := Lib.hid hg2
    clear hg2
    go_wp2_with fail
    go_loopw [5, 27] (fun v i wr => ∃ (k : Nat) (A5 : Option Addr) (c5 : Nat), k ≤ ids.length ∧ i = .int .i64 k ∧ v = .slice A5 (2 + 2 * k) c5 ∧ wr.ownsRow g2 49 1 (.slice A5 (2 + 2 * k) c5) (2 + 2 * k) (natU (numsN N ids.length (ids.take k))) ∧ Below g2 w3 wr) (fun _ i _ => ids.length - (intOf i).toNat)
    case atStart => exact ⟨0, _, _, Nat.zero_le _, rfl, rfl, hown0, Below.refl _ _⟩
    case round =>
      clear hown0
      obtain ⟨k, A5, c5, hk, rfl, rfl, hown, hb⟩ := hrel
      have hgs : g2 ≤ wr.heap.size := Nat.le_trans (Nat.le_of_lt hs1) hb.size
      by_cases hlt : k < ids.length
      · obtain ⟨ad, rfl, hbl, d0, d1⟩ := ids_at (hr1.below hb hB0) hlt
        have HNk := Lib.hid (numsN_take (n := N) (len := ids.length) hlt)
        obtain ⟨s, m, hx, hs, hm2⟩ := wfI_nat (Hw.out ids[k] (List.getElem_mem hlt)) (List.all_eq_true.1 HA.out _ (List.getElem_mem hlt))
        rw [hx] at HNk d0 d1
        simp only at d0 d1
        have e1 : idN ((s : Int), (m : Int)) = [m, s] := by simp [idN]
        rw [e1] at HNk
        clear hx e1
        have hX := Blk.new wr 51 #[.int .u64 (s : Int), .int .i64 (m : Int)]
        have gX := grew_alloc wr (.cells #[.int .u64 (s : Int), .int .i64 (m : Int)] 51)
        have hown1 := own_below hown gX
        have hb1 : Below g2 w3 (wr.alloc (.cells #[.int .u64 (s : Int), .int .i64 (m : Int)] 51)) := Below.trans (B := g2) hb (gX.mono hgs)
        have hgs1 := Nat.le_trans hgs gX.size
        clear hown hb gX
        go_upto_region 8 with (fail)
        have p0 := (hX.cell 0).trans (show _ = some (.int .u64 (s : Int)) from rfl)
        have p1 := (hX.cell 1).trans (show _ = some (.int .i64 (m : Int)) from rfl)
        generalize wr.alloc (.cells #[.int .u64 (s : Int), .int .i64 (m : Int)] 51) = wa at *
        generalize wr.heap.size = ga at *
        clear d0 d1
        have hsI : (s : Int) < 18446744073709551616 := by omega
        clear hs
        go_wp2_with (at_builtin; refine wpList_append_row rfl (.tmp 31) (.tmp 37) rfl g2 elem_u64 (by rfl) (hown1.alloc _) _ (by rfl) (by rfl) (Blk.row (Blk.new wa 49 #[.int .u64 (m : Int), .int .u64 (s : Int)])) (by simp [Value.oneCell']) (by unfold maxLen; omega) (by omega) (by simp; omega) ?_; intro A6 c6 w6 hown6 hg6 _; have hb6 : Below g2 w3 w6 := Below.trans (B := g2) (Below.trans (B := g2) hb1 ((grew_alloc wa _).mono hgs1)) (below_grown hg6 (by simp; omega) (own_lt hown1)))
        go_roundw
        case rel =>
          refine ⟨k + 1, A6, c6, by omega, by go_num, by rw [show 2 + 2 * (k + 1) = 2 + 2 * k + 2 by omega], ?_, hb6⟩
          rw [HNk.out, natU_append, show 2 + 2 * (k + 1) = 2 + 2 * k + 2 by omega]
          exact hown6
        case measure => simp [intOf]; omega
      · obtain rfl : k = ids.length := by omega
        rw [List.take_length] at hown
        have hnl := numsN_len N ids.length ids
        have HBd := Lib.hid (numsN_bd (n := N) (len := ids.length) hN (by omega) Hw.out HA.out)
        generalize numsN N ids.length ids = nums at *
        rw [← hnl] at hown ⊢
        have hrow := own_row hown
        have hnn : nums.length ≤ 2050 := by omega
        have g4 : Grew w wr := Below.trans (B := w.heap.size) (Below.trans (B := w.heap.size) g0 (hbb.mono (by rw [← HG2.out]; exact g0.size))) (hb.mono (by rw [← HG2.out]; exact g0.size))
        clear hnl hown hbb hb hC hr1 c1' hgs hs1
        go_wp2_with fail
        obtain ⟨wo, hwo⟩ : ∃ wo : World, wo = wr := ⟨_, rfl⟩
        rw [← hwo] at hrow g4
        have hk0 : Grew wo wr := by rw [hwo]; exact Grew.refl _
        clear hwo
        go_loopw [8, 42] (fun v i wx => ∃ (k : Nat) (A8 : Option Addr) (c8 : Nat), k ≤ nums.length ∧ i = .int .i64 k ∧ v = .slice A8 (lebs (nums.take k)).length c8 ∧ wx.ownsRow wo.heap.size 5 1 (.slice A8 (lebs (nums.take k)).length c8) (lebs (nums.take k)).length ((lebs (nums.take k)).map (.int .u8)) ∧ Grew wo wx) (fun _ i _ => nums.length - (intOf i).toNat)
        case atStart => exact ⟨0, none, 0, Nat.zero_le _, rfl, rfl, World.ownsRow_nil _ _ _ _, hk0⟩
        case round =>
          clear hk0
          obtain ⟨k, A8, c8, hk, rfl, rfl, hown, hg⟩ := hrel
          have hgz := hg.size
          by_cases hlt : k < nums.length
          · obtain ⟨ad, rfl, hbl, d0⟩ := natU_at (hrow.up hg (Nat.le_refl _)) hlt
            have HLk := Lib.hid (lebs_take hlt)
            have hll := lebs_len (nums.take k)
            have hlt2 : (nums.take k).length ≤ k := List.length_take_le _ _
            have HPU := Lib.hid (putUint_any nums[k] wr (HBd.out _ (List.getElem_mem hlt)))
            have hlb := leb_len 10 nums[k]
            have hlb2 : (lebN nums[k]).length ≤ 10 := hlb
            clear hlb
            generalize lebN nums[k] = lb at *
            generalize nums[k] = x at *
            go_wp2_with fail
            refine HPU.out.mono ?_
            rintro e w7 ⟨A7, c7, rfl, hown7, hb7⟩
            have hown8 := own_below hown hb7
            have hg7 := hg.trans hb7
            clear HPU hown hg hb7 d0
            go_wp2_with (at_builtin; refine wpList_append_row rfl (.tmp 46) (.tmp 48) rfl wo.heap.size elem_u8 (by rfl) hown8 _ (by rfl) (by simp) (own_row hown7) (ones_u8 _) (by unfold maxLen; omega) (by omega) hg7.size ?_; intro A9 c9 w9 hown9 hg9 _; have hg10 : Grew wo w9 := Below.trans (B := wo.heap.size) hg7 (below_grown hg9 hg7.size (own_lt hown8)))
            go_roundw
            case rel =>
              refine ⟨k + 1, A9, c9, by omega, by go_num, by rw [HLk.out, List.length_append], ?_, hg10⟩
              rw [HLk.out, List.length_append, List.map_append]
              exact hown9
            case measure => simp [intOf]; omega
          · obtain rfl : k = nums.length := by omega
            rw [List.take_length] at hown ⊢
            go_wp2_with fail
            go_ret2
            refine ⟨A8, c8, ?_, ?_, Grew.trans g4 hg⟩
            · rw [HEB.out, HE.out]; rfl
            · rw [HEB.out]; exact own_mono hown g4.size
  · have HE := Lib.hid (show encB n ids = [] by unfold encB; rw [if_neg he])
    have hne : (chkM n ids != 0) = true := by rw [bne_iff_ne]; exact he
    have HK : Hid (chkM n ids = chkM n ids) := Lib.hid rfl
    generalize hk : chkM n ids = er at *
    have HK2 := Lib.hid hk
    clear hk he HK
    go_wp2_with fail
    go_ret2
    refine ⟨none, 0, ?_, ?_, g0⟩
    · rw [HE.out, HK2.out]; rfl
    · rw [HE.out]; exact World.ownsRow_nil _ _ _ _
end

/- Known25:
  manifest.Assemble; stockyardlaw25.known.
-/
section
set_option linter.unusedVariables false
set_option linter.unusedSimpArgs false
set_option linter.unnecessarySimpa false
open Go.RowKit
attribute [local go_sem ↓] Go.wp_at_zero Go.wp_at_succ

set_option maxRecDepth 100000 in
set_option maxHeartbeats 1000000 in
theorem assemble25_any (n : Int) (A : Option Addr) (cap B : Nat) (ids : List IdZ) (L : Option Addr) (lc : Nat) (l : List ChZ) (w : World) (hr : Row w B A (idsC ids)) (hw : ∀ x ∈ ids, WfI x) (hl : Row w B L (chsC l)) (hp : LieC w B l) (hok : OkC l) (hB : B ≤ w.heap.size) (hm : ids.length ≤ 9223372036854775807) (hlm : l.length ≤ 4611686018427387904) :
    Calls Try.prog 18 #[.agg #[.int .i64 n, .slice A ids.length cap], .slice L l.length lc] w (RangeRes l n ids 0 n w) := by
  have g0 := grew_alloc w (.cells #[.int .i64 n, .slice A ids.length cap] 31)
  have HR := Lib.hid (range25_any n A cap B ids 0 n L lc l _ (hr.below g0 hB) hw (hl.below g0 hB) (hp.below g0 hB) hok (Nat.le_trans hB g0.size) hm hlm)
  clear hw hok hp
  go_enter Try.func18, Try.ntmps18
  go_wp2_with fail
  refine HR.out.mono ?_
  rintro e w2 ⟨A2, c2, rfl, hown, hb⟩
  have hb2 := Grew.trans g0 hb
  have hown2 := own_mono hown g0.size
  clear hown hb g0 HR
  generalize hx : rangeB l n ids 0 n = x at *
  have HX := Lib.hid hx
  generalize hy : rangeE l n ids 0 n = y at *
  have HY := Lib.hid hy
  clear hx hy
  go_wp2_with fail
  go_ret2
  refine ⟨A2, c2, ?_, ?_, hb2⟩
  · rw [HX.out, HY.out]; rfl
  · rw [HX.out]; exact hown2

theorem knownE (A : Option Addr) (c : Nat) : rangeE [⟨(747382712868975714, 2), ⟨A, c, [0, 0]⟩⟩] 2 [(747382712868975714, 2)] 0 2 = 0 := by kernel_rfl
theorem knownB (A : Option Addr) (c : Nat) : rangeB [⟨(747382712868975714, 2), ⟨A, c, [0, 0]⟩⟩] 2 [(747382712868975714, 2)] 0 2 = [0, 0] := by kernel_rfl
theorem knownC : chkM 0 [] = 0 := by decide +kernel
theorem knownD : encB 0 [] = [0, 0] := by decide +kernel

set_option maxRecDepth 100000 in
set_option maxHeartbeats 2000000 in
theorem known25_any (w : World) : Calls Try.prog 23 #[] w fun e w' => e = .returned (.bool true) ∧ Below w.heap.size w w' := by
  have g0 := grew_alloc w (.cells #[.int .u64 747382712868975714, .int .i64 2] 51)
  have hI := Blk.new w 51 #[.int .u64 747382712868975714, .int .i64 2]
  have z0 : (w.alloc (.cells #[.int .u64 747382712868975714, .int .i64 2] 51)).heap.size = w.heap.size + 1 := by simp
  have g1 := grew_alloc (w.alloc (.cells #[.int .u64 747382712868975714, .int .i64 2] 51)) (.cells #[.int .i64 2, .slice (some ⟨w.heap.size, 0, none⟩) 1 1] 31)
  have hM := Blk.new (w.alloc (.cells #[.int .u64 747382712868975714, .int .i64 2] 51)) 31 #[.int .i64 2, .slice (some ⟨w.heap.size, 0, none⟩) 1 1]
  rw [z0] at hM
  replace hI := hI.of g1
  have gA := g0.trans g1
  clear g0 g1 z0
  go_enter Try.func23, Try.ntmps23
  go_wp2_with fail
  generalize (w.alloc (.cells #[.int .u64 747382712868975714, .int .i64 2] 51)).alloc (.cells #[.int .i64 2, .slice (some ⟨w.heap.size, 0, none⟩) 1 1] 31) = w1 at *
  generalize hgc : w.heap.size = gc at *
  have HGc := Lib.hid hgc
  clear hgc
  have m0 := (hM.cell 0).trans (show _ = some (.int .i64 2) from rfl)
  have m1 := (hM.cell 1).trans (show _ = some (.slice (some ⟨gc, 0, none⟩) 1 1) from rfl)
  have i0 := (hI.cell 0).trans (show _ = some (.int .u64 747382712868975714) from rfl)
  have i1 := (hI.cell 1).trans (show _ = some (.int .i64 2) from rfl)
  have hIr := hI.row
  refine wp_region_g 13 (by kernel_rfl) ?_
  refine AllC.head 0 5 (fuel := 9) (by first | exact fun h k => Grew.trans h k | exact fun h k => cls_grew h k) (grew_drew _) (by rfl) (by kernel_rfl) ?_
  simp only [List.take_succ_cons, List.take_zero, List.drop_succ_cons, List.drop_zero]
  repeat (first
    | (refine HeadC.val (by rfl) ?_
       apply Exists.intro
       refine ⟨fun w' hw' => ?_, ?_⟩
       · (have hf_0 := cell_up hw' m0; have hf_1 := cell_up hw' m1; have hf_2 := cell_up hw' i0; have hf_3 := cell_up hw' i1; (go_simp) <;> (try go_ints) <;> with_reducible rfl)
       try simp only [Act.put, List.setIfInBounds_toArray, List.set_cons_zero, List.set_cons_succ])
    | (refine HeadC.shut (by rfl) ?_
       try simp only [Act.put, List.setIfInBounds_toArray, List.set_cons_zero, List.set_cons_succ]))
  refine HeadC.nil ?_
  refine AllC.one 5 (by kernel_rfl) rfl ?_
  intro wg hg K hK
  go_simp
  have hg5 : Grew w1 (wg.alloc (.cells #[.int .u8 0, .int .u8 0] 5)) := ((grew_drew _).trans hg).trans (grew_alloc _ _)
  have hBy := (Blk.new wg 5 #[.int .u8 0, .int .u8 0]).row
  refine hK.out _ _ hg5 ?_
  clear hK K hg
  try simp only [Act.put, List.setIfInBounds_toArray, List.set_cons_zero, List.set_cons_succ]
  generalize wg.alloc (.cells #[.int .u8 0, .int .u8 0] 5) = w5 at *
  generalize wg.heap.size = g5 at *
  clear wg
  refine AllC.head 6 1 (fuel := 7) (by first | exact fun h k => Grew.trans h k | exact fun h k => cls_grew h k) (hg5) (by rfl) (by kernel_rfl) ?_
  simp only [List.take_succ_cons, List.take_zero, List.drop_succ_cons, List.drop_zero]
  repeat (first
    | (refine HeadC.val (by rfl) ?_
       apply Exists.intro
       refine ⟨fun w' hw' => ?_, ?_⟩
       · ((go_simp) <;> (try go_ints) <;> with_reducible rfl)
       try simp only [Act.put, List.setIfInBounds_toArray, List.set_cons_zero, List.set_cons_succ])
    | (refine HeadC.shut (by rfl) ?_
       try simp only [Act.put, List.setIfInBounds_toArray, List.set_cons_zero, List.set_cons_succ]))
  refine HeadC.nil ?_
  refine AllC.one 7 (by kernel_rfl) rfl ?_
  intro wg hg K hK
  go_simp
  have hg6 := hg5.trans hg
  have hg7 : Grew w1 (wg.alloc (.cells #[.int .u64 747382712868975714, .int .i64 2, .slice (some ⟨g5, 0, none⟩) 2 2] 53)) := hg6.trans (grew_alloc _ _)
  have hCh := (Blk.new wg 53 #[.int .u64 747382712868975714, .int .i64 2, .slice (some ⟨g5, 0, none⟩) 2 2]).row
  have hBy2 := (hBy.up (hg.trans (grew_alloc wg (.cells #[.int .u64 747382712868975714, .int .i64 2, .slice (some ⟨g5, 0, none⟩) 2 2] 53))) (Nat.le_refl _)).more (hg.trans (grew_alloc wg (.cells #[.int .u64 747382712868975714, .int .i64 2, .slice (some ⟨g5, 0, none⟩) 2 2] 53))).size
  refine hK.out _ _ hg7 ?_
  clear hK K hg hg6
  try simp only [Act.put, List.setIfInBounds_toArray, List.set_cons_zero, List.set_cons_succ]
  generalize wg.alloc (.cells #[.int .u64 747382712868975714, .int .i64 2, .slice (some ⟨g5, 0, none⟩) 2 2] 53) = w7 at *
  generalize wg.heap.size = g7 at *
  clear wg
  refine AllC.one 8 (by kernel_rfl) rfl ?_
  intro wg hg K hK
  go_simp
  have hg8 := hg7.trans hg
  have HAs := assemble25_any 2 (some ⟨gc, 0, none⟩) 1 wg.heap.size [(747382712868975714, 2)] (some ⟨g7, 0, none⟩) 1 [⟨(747382712868975714, 2), ⟨some ⟨g5, 0, none⟩, 2, [0, 0]⟩⟩] wg ((hIr.up hg8 (Nat.le_refl _)).more hg8.size) (fun x hx => by rw [List.mem_singleton] at hx; subst hx; exact ⟨by decide, by decide⟩)
    ((hCh.up hg (Nat.le_refl _)).more hg.size) (fun c hc => by rw [List.mem_singleton] at hc; subst hc; exact (hBy2.up hg (Nat.le_refl _)).more hg.size) (fun c hc => by rw [List.mem_singleton] at hc; subst hc; exact ⟨⟨by simp, by simp⟩, fun z hz => by simp at hz; omega, by simp, by simp⟩) (Nat.le_refl _) (by simp) (by simp)
  unfold RangeRes at HAs
  rw [knownE, knownB] at HAs
  refine HAs.mono ?_
  rintro e w8 ⟨A8, c8, rfl, hown8, hb⟩
  have hg9 := hg8.trans hb
  refine hK.out _ _ hg9 ?_
  clear hK K hg hb hg8 HAs
  try simp only [Act.put, List.setIfInBounds_toArray, List.set_cons_zero, List.set_cons_succ]
  refine AllC.head 9 4 (fuel := 1) (by first | exact fun h k => Grew.trans h k | exact fun h k => cls_grew h k) (hg9) (by rfl) (by kernel_rfl) ?_
  simp only [List.take_succ_cons, List.take_zero, List.drop_succ_cons, List.drop_zero]
  repeat (first
    | (refine HeadC.val (by rfl) ?_
       apply Exists.intro
       refine ⟨fun w' hw' => ?_, ?_⟩
       · ((go_simp) <;> (try go_ints) <;> with_reducible rfl)
       try simp only [Act.put, List.setIfInBounds_toArray, List.set_cons_zero, List.set_cons_succ])
    | (refine HeadC.shut (by rfl) ?_
       try simp only [Act.put, List.setIfInBounds_toArray, List.set_cons_zero, List.set_cons_succ]))
  refine HeadC.nil ?_
  refine AllC.tail 13 (by rfl) (by kernel_rfl) ?_
  intro wt hwt
  simp only [List.drop_succ_cons, List.drop_zero]
  have hg10 := gA.trans (hg9.trans hwt)
  clear hwt hg9 m0 m1 i0 i1
  have HEn := encode25_any 0 none 0 0 [] wt (.inl rfl) (fun x hx => by simp at hx) (Nat.zero_le _) (by decide)
  unfold EncRes at HEn
  rw [knownC, knownD] at HEn
  have HEN := Lib.hid HEn
  clear HEn
  go_wp2_with fail
  refine HEN.out.mono ?_
  rintro e w11 ⟨A11, c11, rfl, hown11, hb11⟩
  have hcv := conv_row' (own_row hown11) c11
  have hst : strOfNums [0, 0] = (⟨#[0, 0]⟩ : ByteArray) := by rfl
  simp only [List.length_cons, List.length_nil, Nat.zero_add, Nat.reduceAdd] at hcv
  rw [hst] at hcv
  go_wp2_with fail
  go_ret
  exact ⟨rfl, Grew.trans hg10 hb11⟩
end

/- Pre25:
  What the manifests of small byte strings are.
-/
section
set_option linter.unusedVariables false
set_option linter.unusedSimpArgs false
set_option linter.unnecessarySimpa false
open Go.RowKit

/-- the length of all parts -/
def totP (ps : List Part) : Nat := (ps.map fun p => p.zs.length).sum
theorem totP_of (ps : List Part) : sumN (idsOf ps) = (totP ps : Int) := sumN_of ps
theorem idOf_ok {zs : List Int} (h1 : 1 ≤ zs.length) (h2 : zs.length ≤ 8192) : okId (idOf zs) = true := by
  unfold okId idOf
  simp only [Bool.and_eq_true, decide_eq_true_eq]
  have := sumZ_fp zs
  unfold Fp at this
  refine ⟨?_, by omega, by omega⟩
  rw [vldB_iff]
  omega
theorem small_ok {ps : List Part} (hS : SmallP ps) : (idsOf ps).all okId = true := by
  rw [List.all_eq_true]
  intro x hx
  obtain ⟨p, hp, rfl⟩ := List.mem_map.1 hx
  obtain ⟨h1, h2, _⟩ := hS p hp
  exact idOf_ok h1 (by omega)
theorem small_sum : ∀ {ps : List Part}, SmallP ps → totP ps ≤ 9 * ps.length
  | [], _ => by simp [totP]
  | p :: ps, h => by
    have h1 := small_sum (ps := ps) (fun q hq => h q (List.mem_cons_of_mem _ hq))
    have h2 := (h p (List.mem_cons_self ..)).2.1
    unfold totP at h1 ⊢
    simp only [List.map_cons, List.sum_cons, List.length_cons]
    omega
theorem small_chk {ps : List Part} (hS : SmallP ps) (hn : ps.length ≤ 1000) : chkM (sumN (idsOf ps)) (idsOf ps) = 0 := by
  have h := small_sum hS
  exact (chkM_ok (by rw [idsOf_length]; omega) (small_ok hS) rfl (by rw [totP_of]; omega)).symm
theorem idOf_wf {zs : List Int} (h : zs.length ≤ 9223372036854775807) : WfI (idOf zs) := by
  have h1 := sumZ_fp zs
  unfold Fp at h1
  refine ⟨⟨?_, ?_⟩, ?_, ?_⟩ <;> unfold idOf <;> simp only <;> omega
theorem small_wf {ps : List Part} (hS : SmallP ps) : ∀ x ∈ idsOf ps, WfI x := fun x hx => by
  obtain ⟨p, hp, rfl⟩ := List.mem_map.1 hx
  exact idOf_wf (by have := (hS p hp).2.1; omega)
theorem flat_len (ps : List Part) : (flat ps).length = totP ps := by
  unfold flat totP
  rw [List.length_flatMap]
theorem totP_take {ps : List Part} {k : Nat} (h : k < ps.length) : totP (ps.take (k + 1)) = totP (ps.take k) + ps[k].zs.length := by
  unfold totP
  rw [List.take_succ_eq_append_getElem h, List.map_append, List.sum_append]
  simp
theorem totP_le (ps : List Part) (k : Nat) : totP (ps.take k) ≤ totP ps := sum_take_le ps k
theorem idsOf_take (ps : List Part) (k : Nat) : (idsOf ps).take k = idsOf (ps.take k) := by unfold idsOf; rw [List.map_take]
theorem flat_at {ps : List Part} {k x : Nat} (hk : k < ps.length) (hx : x < ps[k].zs.length) : (flat ps)[totP (ps.take k) + x]? = some ps[k].zs[x] := by
  have e : flat ps = flat (ps.take k) ++ (ps[k].zs ++ flat (ps.drop (k + 1))) := by
    unfold flat
    conv => lhs; rw [← List.take_append_drop k ps, List.drop_eq_getElem_cons hk]
    rw [List.flatMap_append, List.flatMap_cons]
  rw [e, List.getElem?_append_right (by rw [flat_len]; omega), flat_len, Nat.add_sub_cancel_left, List.getElem?_append_left hx, List.getElem?_eq_getElem hx]
theorem pt_mem {ps : List Part} (hS : SmallP ps) {k : Nat} (h : k < ps.length) : 1 ≤ ps[k].zs.length ∧ ps[k].zs.length ≤ 9 ∧ Byt ps[k].zs := hS _ (List.getElem_mem h)
end

end Go.Proofs.Ytnjhipnfhapngaa
