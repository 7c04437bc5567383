/-
  manifest.Decode and ref25.Decode: both read the same manifest, or none.
-/
import Derived.Test.YtnjhipnfhapngaaForm25
namespace Go.Proofs.Ytnjhipnfhapngaa
section
set_option linter.unusedVariables false
set_option linter.unusedSimpArgs false
set_option linter.unnecessarySimpa false
open Go.RowKit
attribute [local go_sem ↓] Go.wp_at_zero Go.wp_at_succ

/-- the number at a of at most most, and what follows it -/
def getN (l : List Nat) (a most : Nat) : Option (Nat × Nat) := match unA 0 0 (l.drop a) with
  | some (v, n) => if v ≤ most then some (v, a + n) else none
  | none => none
/-- what the closure does: the number, failed, at -/
def numZ (l : List Nat) (most : Nat) (f : Bool) (a : Nat) : Nat × Bool × Nat := match f, getN l a most with
  | false, some (v, b) => (v, false, b)
  | _, _ => (0, true, a)
theorem numZ_bad {l : List Nat} {most a : Nat} {f : Bool} (h : f = true ∨ getN l a most = none) : numZ l most f a = (0, true, a) := by
  unfold numZ
  cases f
  · rcases h with h | h
    · cases h
    · rw [h]
  · rfl
theorem numZ_ok {l : List Nat} {most a v b : Nat} (h : getN l a most = some (v, b)) : numZ l most false a = (v, false, b) := by
  unfold numZ; rw [h]
def NumRes (l : List Nat) (most ga gf : Nat) (f : Bool) (a : Nat) (w : World) (e : Ending) (w' : World) : Prop :=
  e = .returned (.int .u64 (numZ l most f a).1) ∧ Blk w' gf 4 #[.bool (numZ l most f a).2.1] ∧ Blk w' ga 3 #[.int .i64 ((numZ l most f a).2.2 : Nat)] ∧ (numZ l most f a).2.2 ≤ l.length ∧ Ch (fun k => k = ga ∨ k = gf) w w'
set_option maxRecDepth 100000 in
set_option maxHeartbeats 1000000 in
theorem number_any (A : Option Addr) (cap B gb ga gf : Nat) (l : List Nat) (most a : Nat) (f : Bool) (w : World) (hr : Row w B A (bysN l)) (hb : ∀ c ∈ l, c < 256) (hc : l.length ≤ cap) (hm : l.length ≤ 4611686018427387904) (ha : a ≤ l.length) (hmo : most < 18446744073709551616)
    (kb : Blk w gb 34 #[.slice A l.length cap]) (ka : Blk w ga 3 #[.int .i64 (a : Nat)]) (kf : Blk w gf 4 #[.bool f]) (hgb : gb < ga) (hga : ga < gf) :
    Calls Try.prog 61 #[.int .u64 (most : Nat), .pointer (some ⟨gb, 0, none⟩), .pointer (some ⟨ga, 0, none⟩), .pointer (some ⟨gf, 0, none⟩)] w (NumRes l most ga gf f a w) := by
  have HU := Lib.hid (uint_any A cap B l a w hr hb hc hm ha)
  have c0 : w.cell? ⟨gb, 0, none⟩ = some (.slice A l.length cap) := (kb.cell 0).trans rfl
  have c1 : w.cell? ⟨ga, 0, none⟩ = some (.int .i64 (a : Nat)) := (ka.cell 0).trans rfl
  have c2 : w.cell? ⟨gf, 0, none⟩ = some (.bool f) := (kf.cell 0).trans rfl
  have z1 := ka.frozen 0
  have z2 := kf.frozen 0
  have hne : ga ≠ gf := by omega
  go_enter Try.func61, Try.ntmps61
  go_wp2_with fail
  refine HU.out.mono ?_
  rintro e w' ⟨hU, rfl⟩
  clear HU
  rcases hU with ⟨v, n, hE, hv, hn, rfl⟩ | ⟨x, hN, hx1, hx2, rfl⟩
  · by_cases hok : f = false ∧ v ≤ most
    · obtain ⟨rfl, hvm⟩ := hok
      have HZ := Lib.hid (numZ_ok (l := l) (most := most) (a := a) (v := v) (b := a + n) (by unfold getN; rw [hE]; simp only; rw [if_pos hvm]))
      have hvI : ¬ (most : Int) < (v : Int) := by omega
      have hn2 := Lib.hid hn
      generalize hsm : a + n = b at *
      clear hE hn hsm
      go_wp2_with fail
      go_ret
      unfold NumRes
      rw [HZ.out]
      exact ⟨rfl, (kf.set_ 0 _).far (fun h => hne h.symm) _, (ka.far hne _).set_ 0 _, hn2.out, ((Ch.refl _ _).setCell (.inr (.inr rfl)) _).setCell (.inr (.inl rfl)) _⟩
    · have HZ := Lib.hid (numZ_bad (l := l) (most := most) (a := a) (f := f) (by
        cases f
        · refine .inr ?_
          unfold getN
          rw [hE]
          simp only
          rw [if_neg (fun h => hok ⟨rfl, h⟩)]
        · exact .inl rfl))
      have hn2 := Lib.hid hn
      generalize hsm : a + n = b at *
      clear hE hn hsm
      cases f
      · have hvI : (most : Int) < (v : Int) := by have : ¬ v ≤ most := fun h => hok ⟨rfl, h⟩; omega
        go_wp2_with fail
        go_ret
        unfold NumRes
        rw [HZ.out]
        exact ⟨rfl, kf.set_ 0 _, ka.far hne _, ha, (Ch.refl _ _).setCell (.inr (.inr rfl)) _⟩
      · go_wp2_with fail
        go_ret
        unfold NumRes
        rw [HZ.out]
        exact ⟨rfl, kf.set_ 0 _, ka.far hne _, ha, (Ch.refl _ _).setCell (.inr (.inr rfl)) _⟩
  · have HZ := Lib.hid (numZ_bad (l := l) (most := most) (a := a) (f := f) (.inr (by unfold getN; rw [hN])))
    have hx0 : ¬ x = 0 := by omega
    clear hN
    cases f
    · go_wp2_with fail
      go_ret
      unfold NumRes
      rw [HZ.out]
      exact ⟨rfl, kf.set_ 0 _, ka.far hne _, ha, (Ch.refl _ _).setCell (.inr (.inr rfl)) _⟩
    · go_wp2_with fail
      go_ret
      unfold NumRes
      rw [HZ.out]
      exact ⟨rfl, kf.set_ 0 _, ka.far hne _, ha, (Ch.refl _ _).setCell (.inr (.inr rfl)) _⟩

def maxU : Nat := 18446744073709551615
/-- c chunks from a on: where they end, and they -/
def decIds (l : List Nat) : Nat → Nat → Option (Nat × List IdZ)
  | 0, a => some (a, [])
  | c + 1, a => match getN l a 8192 with
    | none => none
    | some (k, a1) => match getN l a1 maxU with
      | none => none
      | some (s, a2) => (decIds l c a2).map fun r => (r.1, ((s : Int), (k : Int)) :: r.2)
def decM (l : List Nat) : Option (Nat × List IdZ) := match getN l 0 1048576 with
  | none => none
  | some (n, a) => match getN l a 1024 with
    | none => none
    | some (c, b) => match decIds l c b with
      | none => none
      | some (z, ids) => if z = l.length ∧ chkM (n : Int) ids = 0 then some (n, ids) else none
def decE (l : List Nat) : Int := match decM l with | some _ => 0 | none => 256
def decL (l : List Nat) : List IdZ := match decM l with | some r => r.2 | none => []
def decN (l : List Nat) : Int := match decM l with | some r => (r.1 : Int) | none => 0
theorem dec_no {l : List Nat} (h : decM l = none) : decE l = 256 ∧ decL l = [] ∧ decN l = 0 := by
  unfold decE decL decN; rw [h]; exact ⟨rfl, rfl, rfl⟩
theorem dec_yes {l : List Nat} {n : Nat} {ids : List IdZ} (h : decM l = some (n, ids)) : decE l = 0 ∧ decL l = ids ∧ decN l = (n : Int) := by
  unfold decE decL decN; rw [h]; exact ⟨rfl, rfl, rfl⟩
/-- the loop's state: k of c chunks read, a the place behind them -/
structure DecI (l : List Nat) (c a0 k a : Nat) (ids : List IdZ) : Prop where
  kc : k ≤ c
  len : ids.length = k
  al : a ≤ l.length
  wf : ∀ x ∈ ids, WfI x
  eq : decIds l c a0 = (decIds l (c - k) a).map fun r => (r.1, ids ++ r.2)
theorem DecI.zero {l : List Nat} {c a0 : Nat} (h : a0 ≤ l.length) : DecI l c a0 0 a0 [] :=
  ⟨Nat.zero_le _, rfl, h, fun x h => (by cases h), by simp⟩
theorem DecI.bad1 {l : List Nat} {c a0 k a : Nat} {ids : List IdZ} (h : DecI l c a0 k a ids) (hk : k < c) (hg : getN l a 8192 = none) : decIds l c a0 = none := by
  rw [h.eq, show c - k = (c - k - 1) + 1 by omega]; unfold decIds; rw [hg]; rfl
theorem DecI.bad2 {l : List Nat} {c a0 k a n b : Nat} {ids : List IdZ} (h : DecI l c a0 k a ids) (hk : k < c) (hg : getN l a 8192 = some (n, b)) (hg2 : getN l b maxU = none) : decIds l c a0 = none := by
  rw [h.eq, show c - k = (c - k - 1) + 1 by omega]; unfold decIds; rw [hg]; simp only; rw [hg2]; rfl
theorem DecI.step {l : List Nat} {c a0 k a n b s d : Nat} {ids : List IdZ} (h : DecI l c a0 k a ids) (hk : k < c) (hg : getN l a 8192 = some (n, b)) (hg2 : getN l b maxU = some (s, d)) (hd : d ≤ l.length) (hw : WfI ((s : Int), (n : Int))) : DecI l c a0 (k + 1) d (ids ++ [((s : Int), (n : Int))]) := by
  refine ⟨hk, by rw [List.length_append, h.len]; rfl, hd, fun x hx => ?_, ?_⟩
  · rcases List.mem_append.1 hx with h1 | h1
    · exact h.wf x h1
    · rw [List.mem_singleton] at h1; subst h1; exact hw
  · rw [h.eq, show c - k = (c - (k + 1)) + 1 by omega]
    conv => lhs; unfold decIds
    rw [hg]; simp only; rw [hg2]; simp only
    cases decIds l (c - (k + 1)) d with
    | none => rfl
    | some r => simp
theorem DecI.done {l : List Nat} {c a0 a : Nat} {ids : List IdZ} (h : DecI l c a0 c a ids) : decIds l c a0 = some (a, ids) := by
  rw [h.eq, Nat.sub_self]; unfold decIds; simp
theorem decM_1 {l : List Nat} (h : getN l 0 1048576 = none) : decM l = none := by unfold decM; rw [h]
theorem decM_2 {l : List Nat} {n a : Nat} (h : getN l 0 1048576 = some (n, a)) (h2 : getN l a 1024 = none) : decM l = none := by unfold decM; rw [h]; simp only; rw [h2]
theorem decM_3 {l : List Nat} {n a c b : Nat} (h : getN l 0 1048576 = some (n, a)) (h2 : getN l a 1024 = some (c, b)) (h3 : decIds l c b = none) : decM l = none := by unfold decM; rw [h]; simp only; rw [h2]; simp only; rw [h3]
theorem decM_4 {l : List Nat} {n a c b z : Nat} {ids : List IdZ} (h : getN l 0 1048576 = some (n, a)) (h2 : getN l a 1024 = some (c, b)) (h3 : decIds l c b = some (z, ids)) : decM l = if z = l.length ∧ chkM (n : Int) ids = 0 then some (n, ids) else none := by unfold decM; rw [h]; simp only; rw [h2]; simp only; rw [h3]
theorem getN_yes {l : List Nat} {a most v n : Nat} (h : unA 0 0 (l.drop a) = some (v, n)) (hv : v ≤ most) : getN l a most = some (v, a + n) := by unfold getN; rw [h]; simp only; rw [if_pos hv]
theorem getN_big {l : List Nat} {a most v n : Nat} (h : unA 0 0 (l.drop a) = some (v, n)) (hv : ¬ v ≤ most) : getN l a most = none := by unfold getN; rw [h]; simp only; rw [if_neg hv]
theorem getN_no {l : List Nat} {a most : Nat} (h : unA 0 0 (l.drop a) = none) : getN l a most = none := by unfold getN; rw [h]
def DecRes (l : List Nat) (w : World) (e : Ending) (w' : World) : Prop := ∃ (A : Option Addr) (cap : Nat), e = .returned (.tuple #[.agg #[.int .i64 (decN l), .slice A (decL l).length cap], .int .i64 (decE l)]) ∧
  Row w' w'.heap.size A (idsC (decL l)) ∧ (∀ x ∈ decL l, WfI x) ∧ Below w.heap.size w w'
end
end Go.Proofs.Ytnjhipnfhapngaa
