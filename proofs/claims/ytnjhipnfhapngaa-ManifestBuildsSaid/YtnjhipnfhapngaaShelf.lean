/-
  manifest.newShelf and shelf.bytes: the chunks at hand by their IDs.
-/
import Derived.Test.YtnjhipnfhapngaaMap
import Derived.Test.YtnjhipnfhapngaaPieces
namespace Go.Proofs.Ytnjhipnfhapngaa
set_option linter.unusedVariables false
set_option linter.unusedSimpArgs false
set_option linter.unnecessarySimpa false
open Go.RowKit
attribute [local go_sem ↓] Go.wp_at_zero Go.wp_at_succ

/-- a chunk: its ID and its bytes -/
structure ChZ where
  id : IdZ
  p : Part
def chC (c : ChZ) : List Value := [.int .u64 c.id.1, .int .i64 c.id.2, c.p.v]
def chsC (l : List ChZ) : List Value := l.flatMap chC
theorem chsC_len (l : List ChZ) : (chsC l).length = l.length * 3 := by
  induction l with
  | nil => rfl
  | cons x l ih => simp only [chsC, List.flatMap_cons, List.length_append, List.length_cons] at ih ⊢; rw [ih]; simp [chC]; omega
theorem chsC_append (l m : List ChZ) : chsC (l ++ m) = chsC l ++ chsC m := by simp [chsC]
theorem chsC_get (l : List ChZ) : ∀ k (h : k < l.length), (chsC l)[k * 3]? = some (.int .u64 l[k].id.1) ∧ (chsC l)[k * 3 + 1]? = some (.int .i64 l[k].id.2) ∧ (chsC l)[k * 3 + 2]? = some l[k].p.v := by
  induction l with
  | nil => intro k h; simp at h
  | cons x l ih =>
    intro k h
    cases k with
    | zero => exact ⟨rfl, rfl, rfl⟩
    | succ k =>
      have hk : k < l.length := by simpa using h
      obtain ⟨h0, h1, h2⟩ := ih k hk
      have e : chsC (x :: l) = .int .u64 x.id.1 :: .int .i64 x.id.2 :: x.p.v :: chsC l := rfl
      rw [e, show (k + 1) * 3 = k * 3 + 1 + 1 + 1 by omega]
      exact ⟨by simpa using h0, by simpa using h1, by simpa using h2⟩
theorem ones_chs (l : List ChZ) : ∀ u ∈ chsC l, u.oneCell' = true := by
  intro u hu
  obtain ⟨x, _, hx⟩ := List.mem_flatMap.1 hu
  simp only [chC, List.mem_cons, List.not_mem_nil, or_false] at hx
  rcases hx with rfl | rfl | rfl <;> rfl
/-- element k of a row of chunks -/
theorem chs_at {w : World} {B : Nat} {A : Option Addr} {l : List ChZ} (hr : Row w B A (chsC l)) {k : Nat} (h : k < l.length) :
    ∃ ad : Addr, A = some ad ∧ ad.block < B ∧ w.cell? (ad.add (k * 3)) = some (.int .u64 l[k].id.1) ∧ w.cell? ⟨(ad.add (k * 3)).block, (ad.add (k * 3)).off + 1, none⟩ = some (.int .i64 l[k].id.2) ∧
      w.cell? ⟨(ad.add (k * 3)).block, (ad.add (k * 3)).off + 2, none⟩ = some (.slice l[k].p.A l[k].p.zs.length l[k].p.cap) := by
  obtain ⟨g0, g1, g2⟩ := chsC_get l k h
  have hl := chsC_len l
  obtain ⟨ad, rfl, hb, hc⟩ := hr.at_ (k := k * 3) (by omega)
  obtain ⟨ad2, e, _, hc2⟩ := hr.at_ (k := k * 3 + 1) (by omega)
  obtain rfl : ad = ad2 := by injection e
  obtain ⟨ad2, e, _, hc3⟩ := hr.at_ (k := k * 3 + 2) (by omega)
  obtain rfl : ad = ad2 := by injection e
  rw [List.getElem?_eq_getElem (by omega)] at g0 g1 g2
  have e1 : (⟨(ad.add (k * 3)).block, (ad.add (k * 3)).off + 1, none⟩ : Addr) = ad.add (k * 3 + 1) := add_add ad (k * 3) 1
  have e2 : (⟨(ad.add (k * 3)).block, (ad.add (k * 3)).off + 2, none⟩ : Addr) = ad.add (k * 3 + 2) := add_add ad (k * 3) 2
  exact ⟨ad, rfl, hb, hc.trans g0, by rw [e1]; exact hc2.trans g1, by rw [e2]; exact hc3.trans g2⟩
/-- chunks whose numbers fit and whose bytes are bytes -/
def OkC (l : List ChZ) : Prop := ∀ c ∈ l, WfI c.id ∧ Byt c.p.zs ∧ c.p.zs.length ≤ c.p.cap ∧ c.p.zs.length ≤ 1048576
/-- .. that lie below B -/
def LieC (w : World) (B : Nat) (l : List ChZ) : Prop := ∀ c ∈ l, Row w B c.p.A (c.p.zs.map (.int .u8))
theorem LieC.below {w w' : World} {B N : Nat} {l : List ChZ} (h : LieC w B l) (hb : Below N w w') (hB : B ≤ N) : LieC w' B l := fun c hc => (h c hc).below hb hB
/-- the first chunk with an ID -/
def fstC (l : List ChZ) (x : IdZ) : Option ChZ := l.find? fun c => decide (c.id = x)
theorem fstC_mem {l : List ChZ} {x : IdZ} {c : ChZ} (h : fstC l x = some c) : c ∈ l ∧ c.id = x := ⟨List.mem_of_find?_eq_some h, by simpa using List.find?_some h⟩
theorem fstC_snoc {l : List ChZ} {k : Nat} (hk : k < l.length) (x : IdZ) : fstC (l.take (k + 1)) x = match fstC (l.take k) x with | some c => some c | none => if x = l[k].id then some l[k] else none := by
  unfold fstC
  rw [List.take_succ_eq_append_getElem hk, List.find?_append]
  cases h : (l.take k).find? fun c => decide (c.id = x) with
  | some c => rfl
  | none =>
    simp only [Option.none_or, List.find?_cons, List.find?_nil]
    by_cases e : l[k].id = x
    · rw [decide_eq_true e, if_pos e.symm]
    · rw [decide_eq_false e, if_neg (fun h => e h.symm)]
def fstV (l : List ChZ) (x : IdZ) : Option Value := (fstC l x).map fun c => c.p.v
theorem fstV_skip {l : List ChZ} {k : Nat} (hk : k < l.length) (h : (fstV (l.take k) l[k].id).isSome = true) (x : IdZ) : fstV (l.take k) x = fstV (l.take (k + 1)) x := by
  unfold fstV at h ⊢
  rw [fstC_snoc hk]
  cases hx : fstC (l.take k) x with
  | some c => rfl
  | none =>
    simp only
    split
    · rename_i e; subst e; rw [hx] at h; cases h
    · rfl
theorem fstV_add {l : List ChZ} {k : Nat} (hk : k < l.length) (h : (fstV (l.take k) l[k].id).isSome = false) (x : IdZ) : updM (fstV (l.take k)) l[k].id l[k].p.v x = fstV (l.take (k + 1)) x := by
  unfold fstV updM at *
  rw [fstC_snoc hk]
  by_cases e : x = l[k].id
  · subst e
    rw [if_pos rfl]
    cases hx : fstC (l.take k) l[k].id with
    | some c => rw [hx] at h; cases h
    | none => simp
  · rw [if_neg e]
    show (fstC (l.take k) x).map _ = _
    cases hx : fstC (l.take k) x with
    | some c => rfl
    | none => simp [e]

set_option maxRecDepth 100000 in
set_option maxHeartbeats 2000000 in
theorem newShelf_any (L : Option Addr) (lc B : Nat) (l : List ChZ) (w : World) (hr : Row w B L (chsC l)) (hB : B ≤ w.heap.size) (hm : l.length ≤ 1048576) (hok : OkC l) :
    Calls Try.prog 56 #[.slice L l.length lc] w fun e w' => ∃ b1 b2, e = .returned (.agg #[.map (some b1), .map (some b2)]) ∧ MapIs w' b1 l.length (fstV l) ∧ MapIs w' b2 0 (fun _ => none) ∧ w.heap.size ≤ b1 ∧ b1 < b2 ∧ Below w.heap.size w w' := by
  have Hok := Lib.hid hok
  clear hok
  have gR := grew_alloc w (.cells #[.map none, .map none] 94)
  have hR := Blk.new w 94 #[.map none, .map none]
  have z0 : (w.alloc (.cells #[.map none, .map none] 94)).heap.size = w.heap.size + 1 := by simp
  generalize hw0 : w.alloc (.cells #[.map none, .map none] 94) = w0 at gR hR z0
  have gA := grew_alloc w0 (.map #[] 0)
  have M1 := MapIs.made' (w := w0) z0.symm
  have z1 : (w0.alloc (.map #[] 0)).heap.size = w.heap.size + 1 + 1 := by simp [z0]
  generalize hw1 : w0.alloc (.map #[] 0) = w1 at gA M1 z1
  have gB := grew_alloc w1 (.map #[] 0)
  have M2 := MapIs.made' (w := w1) z1.symm
  have z2 : (w1.alloc (.map #[] 0)).heap.size = w.heap.size + 1 + 1 + 1 := by simp [z1]
  generalize hw2 : w1.alloc (.map #[] 0) = w2 at gB M2 z2
  have gC := grew_alloc w2 (.cells #[.map (some (w.heap.size + 1)), .map (some (w.heap.size + 1 + 1))] 94)
  have hS := Blk.new w2 94 #[.map (some (w.heap.size + 1)), .map (some (w.heap.size + 1 + 1))]
  rw [z2] at hS
  replace hR := ((hR.of gA).of gB).of gC
  replace M1 := (M1.of gB).of gC
  replace M2 := M2.of gC
  have gAll := (((gR.trans gA).trans gB).trans gC)
  have z3 : w.heap.size + 1 + 1 + 1 + 1 = (w2.alloc (.cells #[.map (some (w.heap.size + 1)), .map (some (w.heap.size + 1 + 1))] 94)).heap.size := by simp [z2]
  clear gR gA gB gC
  subst hw2
  subst hw1
  subst hw0
  have hr3 := hr.below gAll hB
  clear z0 z1 z2
  have hmk := @run_makeMap Try.prog
  have hmk2 := fun (n : Int) (W : World) => run_makeMap_n Try.underlying91 n W
  have HZ := Lib.hid z3
  clear z3
  go_enter Try.func56, Try.ntmps56
  go_wp2_with fail
  clear hmk hmk2
  generalize (((w.alloc (.cells #[.map none, .map none] 94)).alloc (.map #[] 0)).alloc (.map #[] 0)).alloc (.cells #[.map (some (w.heap.size + 1)), .map (some (w.heap.size + 1 + 1))] 94) = w3 at *
  generalize hgc : w.heap.size = gc at *
  have HGc := Lib.hid hgc
  clear hgc
  have hzs := HZ.out
  go_loopw [15] (fun i wr => ∃ k : Nat, k ≤ l.length ∧ i = .int .i64 k ∧ MapIs wr (gc + 1) k (fstV (l.take k)) ∧ Ch (At (gc + 1)) w3 wr) (fun i _ => l.length - (intOf i).toNat)
  case atStart => exact ⟨0, Nat.zero_le _, rfl, M1.congr (fun x => rfl), Ch.refl _ _⟩
  case round =>
    obtain ⟨k, hk, rfl, hM, hch⟩ := hrel
    have hws := hch.size
    by_cases hlt : k < l.length
    · have hrr := hr3.ch hch (by omega) (fun i hi => by have h' : i = gc + 1 := hi; omega)
      obtain ⟨ad, rfl, hbl, d0, d1, d2⟩ := chs_at hrr hlt
      have hwf := (Hok.out l[k] (List.getElem_mem hlt)).1
      have HSk := Lib.hid (fun h x => fstV_skip hlt h x)
      have HAd := Lib.hid (fun h x => fstV_add hlt h x)
      have hga := grew_alloc wr (.cells #[.int .u64 l[k].id.1, .int .i64 l[k].id.2, .slice l[k].p.A l[k].p.zs.length l[k].p.cap] 53)
      have hX := Blk.new wr 53 #[.int .u64 l[k].id.1, .int .i64 l[k].id.2, .slice l[k].p.A l[k].p.zs.length l[k].p.cap]
      have hMa := hM.of hga
      have hlk := hMa.look hwf Try.underlying91 (z := .slice none 0 0) (by kernel_rfl)
      have hSa := ((hS.ch hch (by show ¬ gc + 1 + 1 + 1 = gc + 1; omega)).of hga)
      have s0 := (hSa.cell 0).trans (show _ = some (.map (some (gc + 1))) from rfl)
      have hcha := hch.next hga
      clear hM hch hrr hga
      by_cases hs : (fstV (l.take k) l[k].id).isSome = true
      · rw [hs] at hlk
        have HF := Lib.hid (HSk.out hs)
        clear hs HSk HAd
        go_wp2_with fail
        go_roundw
        case rel => exact ⟨k + 1, by omega, by go_num, (hMa.mono (Nat.le_succ k)).congr HF.out, hcha⟩
        case measure => simp [intOf]; omega
      · have hs' : (fstV (l.take k) l[k].id).isSome = false := by simpa using hs
        rw [hs'] at hlk
        have HF := Lib.hid (HAd.out hs')
        clear hs hs' HSk HAd
        go_wp2_with (at_mapUpdate; refine wpList_store_id rfl (.tmp 30) (.tmp 32) (.tmp 34) rfl Try.underlying91 rfl hMa (by unfold maxLen; omega) l[k].id rfl hwf rfl ?_; intro w6 hM6 hch6)
        go_roundw
        case rel => exact ⟨k + 1, by omega, by go_num, hM6.congr HF.out, hcha.trans hch6⟩
        case measure => simp [intOf]; omega
    · obtain rfl : k = l.length := by omega
      rw [List.take_length] at hM
      have hS' := hS.ch hch (by show ¬ gc + 1 + 1 + 1 = gc + 1; omega)
      have hR' := hR.ch hch (by show ¬ gc = gc + 1; omega)
      have s0 := (hS'.cell 0).trans (show _ = some (.map (some (gc + 1))) from rfl)
      have s1 := (hS'.cell 1).trans (show _ = some (.map (some (gc + 1 + 1))) from rfl)
      have r0 := (hR'.cell 0).trans (show _ = some (.map none) from rfl)
      have r1 := (hR'.cell 1).trans (show _ = some (.map none) from rfl)
      have f0 := hR'.frozen 0
      have f1 := hR'.frozen 1
      have hM2 := M2.ch hch (by show ¬ gc + 1 + 1 = gc + 1; omega)
      go_wp2_with fail
      have hk4 := ((Ch.refl (At gc) wr).set_at 0 (.map (some (gc + 1)))).set_at 1 (.map (some (gc + 1 + 1)))
      refine bodyPost_ret (v := .agg #[.map (some (gc + 1)), .map (some (gc + 1 + 1))]) ?_ rfl ⟨gc + 1, gc + 1 + 1, rfl, hM.ch hk4 (by show ¬ gc + 1 = gc; omega), hM2.ch hk4 (by show ¬ gc + 1 + 1 = gc; omega), by rw [HGc.out]; omega, by omega, ?_⟩
      · simp [results, Try.results56, go_sem, r0, r1]
      · have h1 : Below w.heap.size w wr := Below.trans (B := w.heap.size) gAll (hch.below (by rw [HGc.out]; omega) (fun i hi => by have h' : i = gc + 1 := hi; rw [HGc.out]; omega))
        exact Below.trans (B := w.heap.size) h1 (hk4.below h1.size (fun i hi => by have h' : i = gc := hi; rw [HGc.out]; omega))

/-- what the map 'sound' says is true -/
def SoundOk (l : List ChZ) (g : IdZ → Option Value) : Prop := ∀ y v, g y = some v → v = .bool true ∧ ∃ c, fstC l y = some c ∧ idOf c.p.zs = y
theorem SoundOk.none {l : List ChZ} : SoundOk l (fun _ => Option.none) := fun y v h => by cases h
theorem SoundOk.upd {l : List ChZ} {g : IdZ → Option Value} (h : SoundOk l g) {c : ChZ} {x : IdZ} (hc : fstC l x = some c) (hi : idOf c.p.zs = x) : SoundOk l (updM g x (.bool true)) := fun y v hv => by
  unfold updM at hv
  split at hv
  · rename_i e; subst e; cases hv; exact ⟨rfl, c, hc, hi⟩
  · exact h y v hv
/-- the bytes of a chunk, or the error -/
def fndE (l : List ChZ) (x : IdZ) : Int := match fstC l x with | some c => if idOf c.p.zs = x then 0 else 255 | Option.none => 254
def fndP (l : List ChZ) (x : IdZ) : Part := match fstC l x with | some c => if idOf c.p.zs = x then c.p else ⟨Option.none, 0, []⟩ | Option.none => ⟨Option.none, 0, []⟩
theorem fnd_none {l : List ChZ} {x : IdZ} (h : fstC l x = Option.none) : fndE l x = 254 ∧ fndP l x = ⟨Option.none, 0, []⟩ := by unfold fndE fndP; rw [h]; exact ⟨rfl, rfl⟩
theorem fnd_bad {l : List ChZ} {x : IdZ} {c : ChZ} (h : fstC l x = some c) (hi : ¬ idOf c.p.zs = x) : fndE l x = 255 ∧ fndP l x = ⟨Option.none, 0, []⟩ := by unfold fndE fndP; rw [h]; simp only; rw [if_neg hi, if_neg hi]; exact ⟨rfl, rfl⟩
theorem fnd_ok {l : List ChZ} {x : IdZ} {c : ChZ} (h : fstC l x = some c) (hi : idOf c.p.zs = x) : fndE l x = 0 ∧ fndP l x = c.p := by unfold fndE fndP; rw [h]; simp only; rw [if_pos hi, if_pos hi]; exact ⟨rfl, rfl⟩
def BytesRes (l : List ChZ) (b1 b2 m2 : Nat) (x : IdZ) (w : World) (e : Ending) (w' : World) : Prop := e = .returned (.tuple #[(fndP l x).v, .int .i64 (fndE l x)]) ∧
  (∃ g, MapIs w' b2 (m2 + 1) g ∧ SoundOk l g) ∧ Ch (At b2) w w'

end Go.Proofs.Ytnjhipnfhapngaa
