/-
  Shelf, ShelfB, Range, Leb, Enc25, Known25, Pre25.
-/
import Derived.Test.YtpoiejgoongllaaIdz
import Derived.Test.YtpoiejgoongllaaPieces
import Derived.Test.YtpoiejgoongllaaSl25
import Derived.Laws.CopyOwn
namespace Go.Proofs.Ytpoiejgoongllaa
/- Shelf:
  manifest.newShelf and shelf.bytes: the chunks at hand by their IDs.
-/
section
set_option linter.unusedVariables false
set_option linter.unusedSimpArgs false
set_option linter.unnecessarySimpa false
open Go.RowKit
attribute [local go_sem ↓] Go.wp_at_zero Go.wp_at_succ

/-- a chunk: its ID and its bytes -/
structure ChZ where
  id : IdZ
  p : Part
def chC (c : ChZ) : List Value := [.int .u64 c.id.1, .int .i64 c.id.2, c.p.v]
def chsC (l : List ChZ) : List Value := l.flatMap chC
theorem chsC_len (l : List ChZ) : (chsC l).length = l.length * 3 := by
  induction l with
  | nil => rfl
  | cons x l ih => simp only [chsC, List.flatMap_cons, List.length_append, List.length_cons] at ih ⊢; rw [ih]; simp [chC]; omega
theorem chsC_append (l m : List ChZ) : chsC (l ++ m) = chsC l ++ chsC m := by simp [chsC]
theorem chsC_get (l : List ChZ) : ∀ k (h : k < l.length), (chsC l)[k * 3]? = some (.int .u64 l[k].id.1) ∧ (chsC l)[k * 3 + 1]? = some (.int .i64 l[k].id.2) ∧ (chsC l)[k * 3 + 2]? = some l[k].p.v := by
  induction l with
  | nil => intro k h; simp at h
  | cons x l ih =>
    intro k h
    cases k with
    | zero => exact ⟨rfl, rfl, rfl⟩
    | succ k =>
      have hk : k < l.length := by simpa using h
      obtain ⟨h0, h1, h2⟩ := ih k hk
      have e : chsC (x :: l) = .int .u64 x.id.1 :: .int .i64 x.id.2 :: x.p.v :: chsC l := rfl
      rw [e, show (k + 1) * 3 = k * 3 + 1 + 1 + 1 by omega]
      exact ⟨by simpa using h0, by simpa using h1, by simpa using h2⟩
theorem ones_chs (l : List ChZ) : ∀ u ∈ chsC l, u.oneCell' = true := by
  intro u hu
  obtain ⟨x, _, hx⟩ := List.mem_flatMap.1 hu
  simp only [chC, List.mem_cons, List.not_mem_nil, or_false] at hx
  rcases hx with rfl | rfl | rfl <;> rfl
/-- element k of a row of chunks -/
theorem chs_at {w : World} {B : Nat} {A : Option Addr} {l : List ChZ} (hr : Row w B A (chsC l)) {k : Nat} (h : k < l.length) :
    ∃ ad : Addr, A = some ad ∧ ad.block < B ∧ w.cell? (ad.add (k * 3)) = some (.int .u64 l[k].id.1) ∧ w.cell? ⟨(ad.add (k * 3)).block, (ad.add (k * 3)).off + 1, none⟩ = some (.int .i64 l[k].id.2) ∧
      w.cell? ⟨(ad.add (k * 3)).block, (ad.add (k * 3)).off + 2, none⟩ = some (.slice l[k].p.A l[k].p.zs.length l[k].p.cap) := by
  obtain ⟨g0, g1, g2⟩ := chsC_get l k h
  have hl := chsC_len l
  obtain ⟨ad, rfl, hb, hc⟩ := hr.at_ (k := k * 3) (by omega)
  obtain ⟨ad2, e, _, hc2⟩ := hr.at_ (k := k * 3 + 1) (by omega)
  obtain rfl : ad = ad2 := by injection e
  obtain ⟨ad2, e, _, hc3⟩ := hr.at_ (k := k * 3 + 2) (by omega)
  obtain rfl : ad = ad2 := by injection e
  rw [List.getElem?_eq_getElem (by omega)] at g0 g1 g2
  have e1 : (⟨(ad.add (k * 3)).block, (ad.add (k * 3)).off + 1, none⟩ : Addr) = ad.add (k * 3 + 1) := add_add ad (k * 3) 1
  have e2 : (⟨(ad.add (k * 3)).block, (ad.add (k * 3)).off + 2, none⟩ : Addr) = ad.add (k * 3 + 2) := add_add ad (k * 3) 2
  exact ⟨ad, rfl, hb, hc.trans g0, by rw [e1]; exact hc2.trans g1, by rw [e2]; exact hc3.trans g2⟩
/-- chunks whose numbers fit and whose bytes are bytes -/
def OkC (l : List ChZ) : Prop := ∀ c ∈ l, WfI c.id ∧ Byt c.p.zs ∧ c.p.zs.length ≤ c.p.cap ∧ c.p.zs.length ≤ 9223372036854775807
/-- .. that lie below B -/
def LieC (w : World) (B : Nat) (l : List ChZ) : Prop := ∀ c ∈ l, Row w B c.p.A (c.p.zs.map (.int .u8))
theorem LieC.below {w w' : World} {B N : Nat} {l : List ChZ} (h : LieC w B l) (hb : Below N w w') (hB : B ≤ N) : LieC w' B l := fun c hc => (h c hc).below hb hB
/-- the first chunk with an ID -/
def fstC (l : List ChZ) (x : IdZ) : Option ChZ := l.find? fun c => decide (c.id = x)
theorem fstC_mem {l : List ChZ} {x : IdZ} {c : ChZ} (h : fstC l x = some c) : c ∈ l ∧ c.id = x := ⟨List.mem_of_find?_eq_some h, by simpa using List.find?_some h⟩
theorem fstC_snoc {l : List ChZ} {k : Nat} (hk : k < l.length) (x : IdZ) : fstC (l.take (k + 1)) x = match fstC (l.take k) x with | some c => some c | none => if x = l[k].id then some l[k] else none := by
  unfold fstC
  rw [List.take_succ_eq_append_getElem hk, List.find?_append]
  cases h : (l.take k).find? fun c => decide (c.id = x) with
  | some c => rfl
  | none =>
    simp only [Option.none_or, List.find?_cons, List.find?_nil]
    by_cases e : l[k].id = x
    · rw [decide_eq_true e, if_pos e.symm]
    · rw [decide_eq_false e, if_neg (fun h => e h.symm)]
def fstV (l : List ChZ) (x : IdZ) : Option Value := (fstC l x).map fun c => c.p.v
theorem fstV_skip {l : List ChZ} {k : Nat} (hk : k < l.length) (h : (fstV (l.take k) l[k].id).isSome = true) (x : IdZ) : fstV (l.take k) x = fstV (l.take (k + 1)) x := by
  unfold fstV at h ⊢
  rw [fstC_snoc hk]
  cases hx : fstC (l.take k) x with
  | some c => rfl
  | none =>
    simp only
    split
    · rename_i e; subst e; rw [hx] at h; cases h
    · rfl
theorem fstV_add {l : List ChZ} {k : Nat} (hk : k < l.length) (h : (fstV (l.take k) l[k].id).isSome = false) (x : IdZ) : updM (fstV (l.take k)) l[k].id l[k].p.v x = fstV (l.take (k + 1)) x := by
  unfold fstV updM at *
  rw [fstC_snoc hk]
  by_cases e : x = l[k].id
  · subst e
    rw [if_pos rfl]
    cases hx : fstC (l.take k) l[k].id with
    | some c => rw [hx] at h; cases h
    | none => simp
  · rw [if_neg e]
    show (fstC (l.take k) x).map _ = _
    cases hx : fstC (l.take k) x with
    | some c => rfl
    | none => simp [e]

/-- what the map 'sound' says is true -/
def SoundOk (l : List ChZ) (g : IdZ → Option Value) : Prop := ∀ y v, g y = some v → v = .bool true ∧ ∃ c, fstC l y = some c ∧ idOf c.p.zs = y
theorem SoundOk.none {l : List ChZ} : SoundOk l (fun _ => Option.none) := fun y v h => by cases h
theorem SoundOk.upd {l : List ChZ} {g : IdZ → Option Value} (h : SoundOk l g) {c : ChZ} {x : IdZ} (hc : fstC l x = some c) (hi : idOf c.p.zs = x) : SoundOk l (updM g x (.bool true)) := fun y v hv => by
  unfold updM at hv
  split at hv
  · rename_i e; subst e; cases hv; exact ⟨rfl, c, hc, hi⟩
  · exact h y v hv
/-- the bytes of a chunk, or the error -/
def fndE (l : List ChZ) (x : IdZ) : Int := match fstC l x with | some c => if idOf c.p.zs = x then 0 else 255 | Option.none => 254
def fndP (l : List ChZ) (x : IdZ) : Part := match fstC l x with | some c => if idOf c.p.zs = x then c.p else ⟨Option.none, 0, []⟩ | Option.none => ⟨Option.none, 0, []⟩
theorem fnd_none {l : List ChZ} {x : IdZ} (h : fstC l x = Option.none) : fndE l x = 254 ∧ fndP l x = ⟨Option.none, 0, []⟩ := by unfold fndE fndP; rw [h]; exact ⟨rfl, rfl⟩
theorem fnd_bad {l : List ChZ} {x : IdZ} {c : ChZ} (h : fstC l x = some c) (hi : ¬ idOf c.p.zs = x) : fndE l x = 255 ∧ fndP l x = ⟨Option.none, 0, []⟩ := by unfold fndE fndP; rw [h]; simp only; rw [if_neg hi, if_neg hi]; exact ⟨rfl, rfl⟩
theorem fnd_ok {l : List ChZ} {x : IdZ} {c : ChZ} (h : fstC l x = some c) (hi : idOf c.p.zs = x) : fndE l x = 0 ∧ fndP l x = c.p := by unfold fndE fndP; rw [h]; simp only; rw [if_pos hi, if_pos hi]; exact ⟨rfl, rfl⟩
def BytesRes (l : List ChZ) (b1 b2 m2 : Nat) (x : IdZ) (w : World) (e : Ending) (w' : World) : Prop := e = .returned (.tuple #[(fndP l x).v, .int .i64 (fndE l x)]) ∧
  (∃ g, MapIs w' b2 (m2 + 1) g ∧ SoundOk l g) ∧ Ch (At b2) w w'
end

/- ShelfB:
  manifest's shelf.bytes: the bytes of a chunk, found and verified.
-/
section
set_option linter.unusedVariables false
set_option linter.unusedSimpArgs false
set_option linter.unnecessarySimpa false
open Go.RowKit
attribute [local go_sem ↓] Go.wp_at_zero Go.wp_at_succ

theorem bytes_end {l : List ChZ} {b1 b2 m2 : Nat} {x : IdZ} {w w' : World} {v : Value} {e : Int} (hv : v = (fndP l x).v) (he : e = fndE l x) {g : IdZ → Option Value} (hm : MapIs w' b2 (m2 + 1) g) (hg : SoundOk l g) (hc : Ch (At b2) w w') :
    BytesRes l b1 b2 m2 x w (.returned (.tuple #[v, .int .i64 e])) w' := by subst hv; subst he; exact ⟨rfl, ⟨g, hm, hg⟩, hc⟩

end

/- Range:
  manifest.Range, Assemble: the bytes between two offsets, given chunks.
-/
section
set_option linter.unusedVariables false
set_option linter.unusedSimpArgs false
set_option linter.unnecessarySimpa false
open Go.RowKit
attribute [local go_sem ↓] Go.wp_at_zero Go.wp_at_succ

/-- a piece lies in its chunk -/
theorem slK_bd {f t : Int} {l : List IdZ} : ∀ k, k ≤ l.length → ∀ p ∈ slK f t l k, ∃ (i a c : Nat), p = (i, (a : Int), (c : Int)) ∧ ∃ h : i < l.length, a < c ∧ (c : Int) ≤ l[i].2 := by
  intro k
  induction k with
  | zero => intro _ p hp; simp [slK] at hp
  | succ k ih =>
    intro hk p hp
    rw [slK_succ (by omega : k < l.length), List.mem_append] at hp
    rcases hp with hp | hp
    · exact ih (by omega) p hp
    · unfold pcAt at hp
      split at hp
      · rename_i hlt
        rw [List.mem_singleton] at hp
        subst hp
        refine ⟨k, (max (f - sumN (l.take k)) 0).toNat, (min (t - sumN (l.take k)) l[k].2).toNat, ?_, by omega, by omega, by omega⟩
        rw [Int.toNat_of_nonneg (by omega), Int.toNat_of_nonneg (by omega)]
      · simp at hp
theorem pcsC_get (l : List PcZ) : ∀ k (h : k < l.length), (pcsC l)[k * 3]? = some (.int .i64 (l[k].1 : Nat)) ∧ (pcsC l)[k * 3 + 1]? = some (.int .i64 l[k].2.1) ∧ (pcsC l)[k * 3 + 2]? = some (.int .i64 l[k].2.2) := by
  induction l with
  | nil => intro k h; simp at h
  | cons x l ih =>
    intro k h
    cases k with
    | zero => exact ⟨rfl, rfl, rfl⟩
    | succ k =>
      have hk : k < l.length := by simpa using h
      obtain ⟨h0, h1, h2⟩ := ih k hk
      have e : pcsC (x :: l) = .int .i64 x.1 :: .int .i64 x.2.1 :: .int .i64 x.2.2 :: pcsC l := rfl
      rw [e, show (k + 1) * 3 = k * 3 + 1 + 1 + 1 by omega]
      exact ⟨by simpa using h0, by simpa using h1, by simpa using h2⟩
theorem pcs_at {w : World} {B : Nat} {A : Option Addr} {l : List PcZ} (hr : Row w B A (pcsC l)) {k : Nat} (h : k < l.length) :
    ∃ ad : Addr, A = some ad ∧ ad.block < B ∧ w.cell? (ad.add (k * 3)) = some (.int .i64 (l[k].1 : Nat)) ∧ w.cell? ⟨(ad.add (k * 3)).block, (ad.add (k * 3)).off + 1, none⟩ = some (.int .i64 l[k].2.1) ∧
      w.cell? ⟨(ad.add (k * 3)).block, (ad.add (k * 3)).off + 2, none⟩ = some (.int .i64 l[k].2.2) := by
  obtain ⟨g0, g1, g2⟩ := pcsC_get l k h
  have hl := pcsC_len l
  obtain ⟨ad, rfl, hb, hc⟩ := hr.at_ (k := k * 3) (by omega)
  obtain ⟨ad2, e, _, hc2⟩ := hr.at_ (k := k * 3 + 1) (by omega)
  obtain rfl : ad = ad2 := by injection e
  obtain ⟨ad2, e, _, hc3⟩ := hr.at_ (k := k * 3 + 2) (by omega)
  obtain rfl : ad = ad2 := by injection e
  rw [List.getElem?_eq_getElem (by omega)] at g0 g1 g2
  have e1 : (⟨(ad.add (k * 3)).block, (ad.add (k * 3)).off + 1, none⟩ : Addr) = ad.add (k * 3 + 1) := add_add ad (k * 3) 1
  have e2 : (⟨(ad.add (k * 3)).block, (ad.add (k * 3)).off + 2, none⟩ : Addr) = ad.add (k * 3 + 2) := add_add ad (k * 3) 2
  exact ⟨ad, rfl, hb, hc.trans g0, by rw [e1]; exact hc2.trans g1, by rw [e2]; exact hc3.trans g2⟩

/-- the error of a piece, its bytes -/
def pcE (l : List ChZ) (ids : List IdZ) (p : PcZ) : Int := fndE l (ids.getD p.1 (0, 0))
def pcB (l : List ChZ) (ids : List IdZ) (p : PcZ) : List Int := ((fndP l (ids.getD p.1 (0, 0))).zs.drop p.2.1.toNat).take (p.2.2 - p.2.1).toNat
def rgE (l : List ChZ) (ids : List IdZ) : List PcZ → Int
  | [] => 0
  | p :: ps => if pcE l ids p = 0 then rgE l ids ps else pcE l ids p
def rgB (l : List ChZ) (ids : List IdZ) (ps : List PcZ) : List Int := ps.flatMap (pcB l ids)
theorem rgE_ok {l : List ChZ} {ids : List IdZ} : ∀ {ps : List PcZ}, (∀ j (h : j < ps.length), pcE l ids ps[j] = 0) → rgE l ids ps = 0
  | [], _ => rfl
  | p :: ps, h => by
    have h0 : pcE l ids p = 0 := h 0 (by simp)
    rw [rgE, if_pos h0]
    exact rgE_ok (fun j hj => h (j + 1) (by simpa using hj))
theorem rgE_at {l : List ChZ} {ids : List IdZ} : ∀ {ps : List PcZ} {k : Nat} (hk : k < ps.length), (∀ j (h : j < ps.length), j < k → pcE l ids ps[j] = 0) → pcE l ids ps[k] ≠ 0 → rgE l ids ps = pcE l ids ps[k]
  | p :: ps, 0, _, _, h => by rw [rgE, if_neg (by simpa using h)]; rfl
  | p :: ps, k + 1, hk, ha, h => by
    have h0 : pcE l ids p = 0 := ha 0 (by simp) (by omega)
    rw [rgE, if_pos h0]
    simp only [List.getElem_cons_succ] at h ⊢
    exact rgE_at (by simpa using hk) (fun j hj hjk => ha (j + 1) (by simpa using hj) (by omega)) (by simpa using h)
theorem rgB_take {l : List ChZ} {ids : List IdZ} {ps : List PcZ} {k : Nat} (h : k < ps.length) : rgB l ids (ps.take (k + 1)) = rgB l ids (ps.take k) ++ pcB l ids ps[k] := by
  unfold rgB; rw [List.take_succ_eq_append_getElem h, List.flatMap_append]; simp
def rangeE (l : List ChZ) (n : Int) (ids : List IdZ) (f t : Int) : Int := if slE n ids f t = 0 then rgE l ids (slK f t ids ids.length) else slE n ids f t
def rangeB (l : List ChZ) (n : Int) (ids : List IdZ) (f t : Int) : List Int := if rangeE l n ids f t = 0 then rgB l ids (slK f t ids ids.length) else []
/-- a chunk that was found has the length that its ID says -/
theorem fnd_len {l : List ChZ} {x : IdZ} (h : fndE l x = 0) : ∃ c, fstC l x = some c ∧ c ∈ l ∧ idOf c.p.zs = x ∧ fndP l x = c.p ∧ (c.p.zs.length : Int) = x.2 := by
  cases hc : fstC l x with
  | none => rw [(fnd_none hc).1] at h; cases h
  | some c =>
    by_cases hi : idOf c.p.zs = x
    · exact ⟨c, rfl, (fstC_mem hc).1, hi, (fnd_ok hc hi).2, congrArg Prod.snd hi⟩
    · rw [(fnd_bad hc hi).1] at h; cases h
/-- what Range leaves -/
def RangeRes (l : List ChZ) (n : Int) (ids : List IdZ) (f t : Int) (w : World) (e : Ending) (w' : World) : Prop := ∃ (A : Option Addr) (cap : Nat), e = .returned (.tuple #[.slice A (rangeB l n ids f t).length cap, .int .i64 (rangeE l n ids f t)]) ∧
  w'.ownsRow w.heap.size 5 1 (.slice A (rangeB l n ids f t).length cap) (rangeB l n ids f t).length ((rangeB l n ids f t).map (.int .u8)) ∧ Below w.heap.size w w'

end

/- Leb:
  codec.PutUint: numbers as bytes of seven bits, the lowest first.
-/
section
set_option linter.unusedVariables false
set_option linter.unusedSimpArgs false
set_option linter.unnecessarySimpa false
open Go.RowKit
attribute [local go_sem ↓] Go.wp_at_zero Go.wp_at_succ

def leb : Nat → Nat → List Int
  | 0, _ => []
  | f + 1, n => if n < 128 then [(n : Int)] else ((128 + n % 128 : Nat) : Int) :: leb f (n / 128)
def lebN (n : Nat) : List Int := leb 10 n
theorem leb_small {f m : Nat} (h : m < 128) (hf : 1 ≤ f) : leb f m = [(m : Int)] := by
  obtain ⟨f, rfl⟩ : ∃ g, f = g + 1 := ⟨f - 1, by omega⟩
  rw [leb, if_pos h]
theorem leb_big {f m : Nat} (h : 128 ≤ m) (hf : 1 ≤ f) : leb f m = ((128 + m % 128 : Nat) : Int) :: leb (f - 1) (m / 128) := by
  obtain ⟨f, rfl⟩ : ∃ g, f = g + 1 := ⟨f - 1, by omega⟩
  rw [leb, if_neg (by omega)]
  rfl
/-- dn is put, m with f digits is to come -/
structure LebI (n m f : Nat) (dn : List Int) : Prop where
  eq : dn ++ leb f m = lebN n
  f1 : 1 ≤ f
  lt : m < 128 ^ f
  len : dn.length + f = 10
theorem LebI.zero {n : Nat} (h : n < 18446744073709551616) : LebI n n 10 [] := by
  have h1 : (128 : Nat) ^ 10 = 1180591620717411303424 := by decide
  exact ⟨rfl, by decide, by rw [h1]; omega, rfl⟩
theorem LebI.two {n m f : Nat} {dn : List Int} (h : LebI n m f dn) (hm : 128 ≤ m) : 2 ≤ f := by
  have h1 := h.f1
  have h2 := h.lt
  rcases Nat.lt_or_ge f 2 with h3 | h3
  · obtain rfl : f = 1 := by omega
    omega
  · exact h3
theorem LebI.step {n m f : Nat} {dn : List Int} (h : LebI n m f dn) (hm : 128 ≤ m) : LebI n (m / 128) (f - 1) (dn ++ [((128 + m % 128 : Nat) : Int)]) := by
  have h2 := h.two hm
  have hl := h.lt
  refine ⟨?_, by omega, ?_, by rw [List.length_append, List.length_singleton]; have := h.len; omega⟩
  · rw [List.append_assoc, ← h.eq, leb_big hm h.f1]; rfl
  · obtain ⟨g, rfl⟩ : ∃ g, f = g + 1 := ⟨f - 1, by omega⟩
    rw [Nat.pow_succ] at hl
    rw [Nat.add_sub_cancel]
    exact Nat.div_lt_of_lt_mul (by rw [Nat.mul_comm]; exact hl)
theorem LebI.done {n m f : Nat} {dn : List Int} (h : LebI n m f dn) (hm : m < 128) : lebN n = dn ++ [(m : Int)] := by rw [← h.eq, leb_small hm h.f1]
theorem leb_len : ∀ f n, (leb f n).length ≤ f
  | 0, _ => Nat.le_refl _
  | f + 1, n => by
    rw [leb]
    split
    · simp
    · simp only [List.length_cons]; have := leb_len f (n / 128); omega
theorem leb_byt : ∀ f n, Byt (leb f n)
  | 0, _ => fun z hz => by simp [leb] at hz
  | f + 1, n => fun z hz => by
    rw [leb] at hz
    split at hz
    · rw [List.mem_singleton] at hz; omega
    · rcases List.mem_cons.1 hz with hz | hz
      · omega
      · exact leb_byt f _ z hz
theorem and127 (m : Nat) (h : m < 18446744073709551616) : bits .and .u64 (m : Int) 127 = ((m % 128 : Nat) : Int) := by
  have h1 := bits_and_u64_nat m 127 h (by omega)
  have e : m &&& 127 = m % 128 := Nat.and_two_pow_sub_one_eq_mod m 7
  rw [e] at h1
  exact h1
theorem or128 (m : Nat) : bits .or .u64 ((m % 128 : Nat) : Int) 128 = ((128 + m % 128 : Nat) : Int) := by
  have h1 := bits_or_u64_nat (m % 128) 128 (by omega) (by omega)
  have e : m % 128 ||| 128 = 128 + m % 128 := by
    have := Nat.two_pow_add_eq_or_of_lt (i := 7) (b := m % 128) (by omega) 1
    rw [Nat.or_comm]
    simpa using this.symm
  rw [e] at h1
  exact h1

/-- bytes behind those of H -/
def LebRes (base : Nat) (H : Value) (l : List Int) (w : World) (e : Ending) (w' : World) : Prop := ∃ A cap, e = .returned (.slice A l.length cap) ∧ w'.ownsRow base 5 1 (.slice A l.length cap) l.length (l.map (.int .u8)) ∧ Ch (fun k => H.ownBlock = some k) w w'
end

/- Enc25:
  manifest.Encode.
-/
section
set_option linter.unusedVariables false
set_option linter.unusedSimpArgs false
set_option linter.unnecessarySimpa false
open Go.RowKit
attribute [local go_sem ↓] Go.wp_at_zero Go.wp_at_succ

theorem own_lit (w : World) (base : Nat) (e : TypeId) (cs : Array Value) (hb : base ≤ w.heap.size) (hm : cs.size ≤ maxLen) : (w.alloc (.cells cs e)).ownsRow base e 1 (.slice (some ⟨w.heap.size, 0, none⟩) cs.size cs.size) cs.size cs.toList :=
  ⟨by simp, .inr ⟨w.heap.size, cs.size, cs, rfl, hb, heap_alloc_new w _, Nat.le_refl _, hm, by simp, by rw [Nat.mul_one]; exact List.take_of_length_le (by simp)⟩⟩
/-- the numbers of a manifest's encoding -/
def idN (x : IdZ) : List Nat := [x.2.toNat, x.1.toNat]
def numsN (n : Nat) (len : Nat) (ids : List IdZ) : List Nat := n :: len :: ids.flatMap idN
def natU (l : List Nat) : List Value := l.map fun n : Nat => Value.int .u64 (n : Int)
theorem natU_append (l m : List Nat) : natU (l ++ m) = natU l ++ natU m := by simp [natU]
theorem natU_length (l : List Nat) : (natU l).length = l.length := by simp [natU]
theorem ones_natU (l : List Nat) : ∀ u ∈ natU l, u.oneCell' = true := by
  intro u hu
  obtain ⟨x, _, rfl⟩ := List.mem_map.1 hu
  rfl
theorem numsN_take {n len : Nat} {ids : List IdZ} {k : Nat} (h : k < ids.length) : numsN n len (ids.take (k + 1)) = numsN n len (ids.take k) ++ idN ids[k] := by
  unfold numsN; rw [List.take_succ_eq_append_getElem h, List.flatMap_append]; simp
theorem numsN_len (n len : Nat) (ids : List IdZ) : (numsN n len ids).length = 2 + 2 * ids.length := by
  unfold numsN
  have : (ids.flatMap idN).length = 2 * ids.length := by
    induction ids with
    | nil => rfl
    | cons x l ih => simp only [List.flatMap_cons, List.length_append, List.length_cons, ih, idN, List.length_nil]; omega
  simp only [List.length_cons, this]; omega
/-- numbers as bytes -/
def lebs (l : List Nat) : List Int := l.flatMap lebN
theorem lebs_take {l : List Nat} {k : Nat} (h : k < l.length) : lebs (l.take (k + 1)) = lebs (l.take k) ++ lebN l[k] := by
  unfold lebs; rw [List.take_succ_eq_append_getElem h, List.flatMap_append]; simp
theorem lebs_len (l : List Nat) : (lebs l).length ≤ 10 * l.length := by
  induction l with
  | nil => simp [lebs]
  | cons x l ih =>
    have := leb_len 10 x
    unfold lebs at ih ⊢
    simp only [List.flatMap_cons, List.length_append, List.length_cons]
    unfold lebN at ih ⊢
    omega
/-- element k of a row of numbers -/
theorem natU_at {w : World} {B : Nat} {A : Option Addr} {l : List Nat} (hr : Row w B A (natU l)) {k : Nat} (h : k < l.length) : ∃ ad : Addr, A = some ad ∧ ad.block < B ∧ w.cell? (ad.add k) = some (.int .u64 (l[k] : Int)) := by
  obtain ⟨ad, rfl, hb, hc⟩ := hr.at_ (k := k) (by rw [natU_length]; exact h)
  have e : (natU l)[k]'(by rw [natU_length]; exact h) = .int .u64 (l[k] : Int) := by simp [natU]
  rw [e] at hc
  exact ⟨ad, rfl, hb, hc⟩
theorem wfI_nat {x : IdZ} (hw : WfI x) (ho : okId x = true) : ∃ s m : Nat, x = ((s : Int), (m : Int)) ∧ s < 18446744073709551616 ∧ m ≤ 8192 := by
  obtain ⟨a, b⟩ := x
  obtain ⟨⟨h0, h1⟩, _⟩ := hw
  have hb := okId_bd ho
  simp only at h0 h1 hb
  exact ⟨a.toNat, b.toNat, by rw [Int.toNat_of_nonneg h0, Int.toNat_of_nonneg (by omega)], by omega, by omega⟩
theorem numsN_bd {n len : Nat} {ids : List IdZ} (hn : n ≤ 1048576) (hl : len ≤ 1048576) (hw : ∀ x ∈ ids, WfI x) (ho : ids.all okId = true) : ∀ z ∈ numsN n len ids, z < 18446744073709551616 := by
  intro z hz
  unfold numsN at hz
  rcases List.mem_cons.1 hz with rfl | hz
  · omega
  · rcases List.mem_cons.1 hz with rfl | hz
    · omega
    · obtain ⟨x, hx, hz⟩ := List.mem_flatMap.1 hz
      obtain ⟨s, m, rfl, h1, h2⟩ := wfI_nat (hw x hx) (List.all_eq_true.1 ho x hx)
      simp only [idN, Int.toNat_natCast, List.mem_cons, List.not_mem_nil, or_false] at hz
      omega
def encB (n : Int) (ids : List IdZ) : List Int := if chkM n ids = 0 then lebs (numsN n.toNat ids.length ids) else []
def EncRes (n : Int) (ids : List IdZ) (w : World) (e : Ending) (w' : World) : Prop := ∃ (A : Option Addr) (cap : Nat), e = .returned (.tuple #[.slice A (encB n ids).length cap, .int .i64 (chkM n ids)]) ∧
  w'.ownsRow w.heap.size 5 1 (.slice A (encB n ids).length cap) (encB n ids).length ((encB n ids).map (.int .u8)) ∧ Below w.heap.size w w'

end

/- Known25:
  manifest.Assemble; stockyardlaw25.known.
-/
section
set_option linter.unusedVariables false
set_option linter.unusedSimpArgs false
set_option linter.unnecessarySimpa false
open Go.RowKit
attribute [local go_sem ↓] Go.wp_at_zero Go.wp_at_succ

theorem knownE (A : Option Addr) (c : Nat) : rangeE [⟨(747382712868975714, 2), ⟨A, c, [0, 0]⟩⟩] 2 [(747382712868975714, 2)] 0 2 = 0 := by kernel_rfl
theorem knownB (A : Option Addr) (c : Nat) : rangeB [⟨(747382712868975714, 2), ⟨A, c, [0, 0]⟩⟩] 2 [(747382712868975714, 2)] 0 2 = [0, 0] := by kernel_rfl
theorem knownC : chkM 0 [] = 0 := by decide +kernel
theorem knownD : encB 0 [] = [0, 0] := by decide +kernel

end

/- Pre25:
  What the manifests of small byte strings are.
-/
section
set_option linter.unusedVariables false
set_option linter.unusedSimpArgs false
set_option linter.unnecessarySimpa false
open Go.RowKit

/-- the length of all parts -/
def totP (ps : List Part) : Nat := (ps.map fun p => p.zs.length).sum
theorem totP_of (ps : List Part) : sumN (idsOf ps) = (totP ps : Int) := sumN_of ps
theorem idOf_ok {zs : List Int} (h1 : 1 ≤ zs.length) (h2 : zs.length ≤ 8192) : okId (idOf zs) = true := by
  unfold okId idOf
  simp only [Bool.and_eq_true, decide_eq_true_eq]
  have := sumZ_fp zs
  unfold Fp at this
  refine ⟨?_, by omega, by omega⟩
  rw [vldB_iff]
  omega
theorem small_ok {ps : List Part} (hS : SmallP ps) : (idsOf ps).all okId = true := by
  rw [List.all_eq_true]
  intro x hx
  obtain ⟨p, hp, rfl⟩ := List.mem_map.1 hx
  obtain ⟨h1, h2, _⟩ := hS p hp
  exact idOf_ok h1 (by omega)
theorem small_sum : ∀ {ps : List Part}, SmallP ps → totP ps ≤ 9 * ps.length
  | [], _ => by simp [totP]
  | p :: ps, h => by
    have h1 := small_sum (ps := ps) (fun q hq => h q (List.mem_cons_of_mem _ hq))
    have h2 := (h p (List.mem_cons_self ..)).2.1
    unfold totP at h1 ⊢
    simp only [List.map_cons, List.sum_cons, List.length_cons]
    omega
theorem small_chk {ps : List Part} (hS : SmallP ps) (hn : ps.length ≤ 1000) : chkM (sumN (idsOf ps)) (idsOf ps) = 0 := by
  have h := small_sum hS
  exact (chkM_ok (by rw [idsOf_length]; omega) (small_ok hS) rfl (by rw [totP_of]; omega)).symm
theorem idOf_wf {zs : List Int} (h : zs.length ≤ 9223372036854775807) : WfI (idOf zs) := by
  have h1 := sumZ_fp zs
  unfold Fp at h1
  refine ⟨⟨?_, ?_⟩, ?_, ?_⟩ <;> unfold idOf <;> simp only <;> omega
theorem small_wf {ps : List Part} (hS : SmallP ps) : ∀ x ∈ idsOf ps, WfI x := fun x hx => by
  obtain ⟨p, hp, rfl⟩ := List.mem_map.1 hx
  exact idOf_wf (by have := (hS p hp).2.1; omega)
theorem flat_len (ps : List Part) : (flat ps).length = totP ps := by
  unfold flat totP
  rw [List.length_flatMap]
theorem totP_take {ps : List Part} {k : Nat} (h : k < ps.length) : totP (ps.take (k + 1)) = totP (ps.take k) + ps[k].zs.length := by
  unfold totP
  rw [List.take_succ_eq_append_getElem h, List.map_append, List.sum_append]
  simp
theorem totP_le (ps : List Part) (k : Nat) : totP (ps.take k) ≤ totP ps := sum_take_le ps k
theorem idsOf_take (ps : List Part) (k : Nat) : (idsOf ps).take k = idsOf (ps.take k) := by unfold idsOf; rw [List.map_take]
theorem flat_at {ps : List Part} {k x : Nat} (hk : k < ps.length) (hx : x < ps[k].zs.length) : (flat ps)[totP (ps.take k) + x]? = some ps[k].zs[x] := by
  have e : flat ps = flat (ps.take k) ++ (ps[k].zs ++ flat (ps.drop (k + 1))) := by
    unfold flat
    conv => lhs; rw [← List.take_append_drop k ps, List.drop_eq_getElem_cons hk]
    rw [List.flatMap_append, List.flatMap_cons]
  rw [e, List.getElem?_append_right (by rw [flat_len]; omega), flat_len, Nat.add_sub_cancel_left, List.getElem?_append_left hx, List.getElem?_eq_getElem hx]
theorem pt_mem {ps : List Part} (hS : SmallP ps) {k : Nat} (h : k < ps.length) : 1 ≤ ps[k].zs.length ∧ ps[k].zs.length ≤ 9 ∧ Byt ps[k].zs := hS _ (List.getElem_mem h)
end

end Go.Proofs.Ytpoiejgoongllaa
