/-
  Same, SameInts, Joined, Tape.
-/
import Derived.Test.YtpoiejgoongllaaRegC
namespace Go.Proofs.Ytpoiejgoongllaa
/- Same:
  stockyardmake.SameSums: are two lists of numbers equal?
-/
section
set_option linter.unusedVariables false
set_option linter.unusedSimpArgs false
set_option linter.unnecessarySimpa false
open Go.RowKit Go.Lib

/-- equal up to k -/
theorem take_eq_succ {xs ys : List Int} {k : Nat} (h : xs.take k = ys.take k) (hx : k < xs.length) (hy : k < ys.length) (he : xs[k] = ys[k]) : xs.take (k + 1) = ys.take (k + 1) := by
  rw [List.take_succ_eq_append_getElem hx, List.take_succ_eq_append_getElem hy, h, he]
/-- are two lists of numbers equal? -/
def eqZ (xs ys : List Int) : Bool := decide (xs = ys)
theorem eqZ_same (xs : List Int) : eqZ xs xs = true := by unfold eqZ; simp
theorem eqZ_yes {xs ys : List Int} (h : xs = ys) : true = eqZ xs ys := by unfold eqZ; simp [h]
theorem eqZ_no {xs ys : List Int} (h : xs ≠ ys) : false = eqZ xs ys := by unfold eqZ; simp [h]

end

/- SameInts:
  stockyardmake.SameInts: are two lists of numbers equal?
-/
section
set_option linter.unusedVariables false
set_option linter.unusedSimpArgs false
set_option linter.unnecessarySimpa false
open Go.RowKit Go.Lib

end

/- Joined:
  stockyardmake.Joined: the concatenation in new memory.
-/
section
set_option linter.unusedVariables false
set_option linter.unusedSimpArgs false
set_option linter.unnecessarySimpa false
open Go.RowKit Go.Lib

/-- a byte string that came in: where it lies, its capacity, its bytes -/
structure Part where
  A : Option Addr
  cap : Nat
  zs : List Int
def Part.v (p : Part) : Value := .slice p.A p.zs.length p.cap
def flat (ps : List Part) : List Int := ps.flatMap Part.zs
theorem flat_snoc (ps : List Part) (k : Nat) (h : k < ps.length) : flat (ps.take (k + 1)) = flat (ps.take k) ++ ps[k].zs := by
  unfold flat; rw [List.take_succ_eq_append_getElem h, List.flatMap_append]; simp
theorem flat_le (ps : List Part) (k : Nat) : (flat (ps.take k)).length ≤ (flat ps).length := by
  have h : flat ps = flat (ps.take k) ++ flat (ps.drop k) := by
    unfold flat; rw [← List.flatMap_append, List.take_append_drop]
  rw [h, List.length_append]; omega
/-- the parts lie below block B -/
def Lie (w : World) (B : Nat) (ps : List Part) : Prop := ∀ p ∈ ps, Row w B p.A (p.zs.map (.int .u8))

theorem ones_u8 (zs : List Int) : ∀ u ∈ zs.map (Value.int .u8), u.oneCell' = true := by
  intro u hu
  obtain ⟨z, _, rfl⟩ := List.mem_map.1 hu
  rfl

set_option maxHeartbeats 400000 in
theorem joined_any (L : Option Addr) (lc B : Nat) (ps : List Part) (w : World) (hl : Row w B L (ps.map Part.v)) (hp : Lie w B ps) (hB : B ≤ w.heap.size) (hm : ps.length ≤ 9223372036854775807) (hsum : (flat ps).length ≤ 140737488355328) :
    Calls Try.prog 20 #[.slice L ps.length lc] w fun e w' => ∃ A cap, e = .returned (.slice A (flat ps).length cap) ∧
      w'.ownsRow w.heap.size 5 1 (.slice A (flat ps).length cap) (flat ps).length ((flat ps).map (.int .u8)) ∧ Below w.heap.size w w' := by
  have Hp := Lib.hid hp
  clear hp
  go_enter Try.func20, Try.ntmps20
  go_wp2_with fail
  go_loopw [3, 4] (fun v i wr => (∃ k : Nat, k ≤ ps.length ∧ i = .int .i64 k ∧ ∃ A cap, v = .slice A (flat (ps.take k)).length cap ∧
      wr.ownsRow w.heap.size 5 1 (.slice A (flat (ps.take k)).length cap) (flat (ps.take k)).length ((flat (ps.take k)).map (.int .u8))) ∧ Below w.heap.size w wr) (fun _ i _ => ps.length - (intOf i).toNat)
  case atStart => exact ⟨⟨0, Nat.zero_le _, rfl, none, 0, rfl, World.ownsRow_nil _ _ _ _⟩, Below.refl _ _⟩
  case round =>
    obtain ⟨⟨k, hk, rfl, A, cap, rfl, hown⟩, hb⟩ := hrel
    by_cases hlt : k < ps.length
    · obtain ⟨ad, rfl, hbl, hc⟩ := (hl.below hb hB).at_ (k := k) (by simpa using hlt)
      rw [List.getElem_map] at hc
      have HR := Lib.hid ((Hp.out ps[k] (List.getElem_mem hlt)).below hb hB)
      have HF := Lib.hid (flat_snoc ps k hlt)
      have hS : (flat (ps.take k)).length + ps[k].zs.length ≤ (flat ps).length := by
        have h1 := flat_le ps (k + 1)
        rw [HF.out, List.length_append] at h1
        exact h1
      have hbs := hb.size
      unfold Part.v at hc
      go_wp2_with (at_builtin; refine wpList_append_row rfl (.tmp 11) (.tmp 15) rfl w.heap.size elem_u8 (by rfl) hown B (by rfl) (by simp) HR.out (ones_u8 _) (by unfold maxLen; omega) (by omega) hbs ?_; intro A1 cap1 w1 hown1 hg1 _)
      go_wp2
      go_roundw
      case rel =>
        refine ⟨⟨k + 1, by omega, by go_num, A1, cap1, ?_, ?_⟩, hb.trans (below_grown hg1 hbs (own_lt hown))⟩
        · rw [HF.out, List.length_append]
        · rw [HF.out, List.length_append, List.map_append]
          exact hown1
      case measure => simp [intOf]; omega
    · go_wp2_with fail
      go_ret
      have e : ps.take k = ps := List.take_of_length_le (by omega)
      rw [e] at hown ⊢
      exact ⟨A, cap, rfl, hown, hb⟩

theorem joined_one (L : Option Addr) (lc B : Nat) (A : Option Addr) (cap : Nat) (zs : List Int) (w : World) (hl : Row w B L [.slice A zs.length cap]) (hp : Row w B A (zs.map (.int .u8))) (hB : B ≤ w.heap.size) (hsum : zs.length ≤ 140737488355328) :
    Calls Try.prog 20 #[.slice L 1 lc] w fun e w' => ∃ A' cap', e = .returned (.slice A' zs.length cap') ∧
      w'.ownsRow w.heap.size 5 1 (.slice A' zs.length cap') zs.length (zs.map (.int .u8)) ∧ Below w.heap.size w w' := by
  have e : flat [⟨A, cap, zs⟩] = zs := by simp [flat]
  have h := joined_any L lc B [⟨A, cap, zs⟩] w hl (fun p hp' => by rw [List.mem_singleton] at hp'; subst hp'; exact hp) hB (by simp) (by rw [e]; exact hsum)
  rw [e] at h
  exact h
theorem joined_two (L : Option Addr) (lc B : Nat) (A A2 : Option Addr) (cap cap2 : Nat) (zs zs2 : List Int) (w : World) (hl : Row w B L [.slice A zs.length cap, .slice A2 zs2.length cap2])
    (hp : Row w B A (zs.map (.int .u8))) (hp2 : Row w B A2 (zs2.map (.int .u8))) (hB : B ≤ w.heap.size) (hsum : zs.length + zs2.length ≤ 140737488355328) :
    Calls Try.prog 20 #[.slice L 2 lc] w fun e w' => ∃ A' cap', e = .returned (.slice A' (zs ++ zs2).length cap') ∧
      w'.ownsRow w.heap.size 5 1 (.slice A' (zs ++ zs2).length cap') (zs ++ zs2).length ((zs ++ zs2).map (.int .u8)) ∧ Below w.heap.size w w' := by
  have e : flat [⟨A, cap, zs⟩, ⟨A2, cap2, zs2⟩] = zs ++ zs2 := by simp [flat]
  have h := joined_any L lc B [⟨A, cap, zs⟩, ⟨A2, cap2, zs2⟩] w hl (fun p hp' => by
    rcases List.mem_cons.1 hp' with rfl | hp'
    · exact hp
    · rw [List.mem_singleton] at hp'; subst hp'; exact hp2) hB (by simp) (by rw [e, List.length_append]; exact hsum)
  rw [e] at h
  exact h

/-- an owned row that holds something lies in a block of its own; each of its cells can be written -/
theorem own_some {w : World} {base : Nat} {e : TypeId} {size : Nat} {A : Option Addr} {n cap : Nat} {xs : List Value} (h : w.ownsRow base e size (.slice A n cap) n xs) (hn : 0 < n) :
    ∃ g, A = some ⟨g, 0, none⟩ ∧ base ≤ g ∧ g < w.heap.size := by
  obtain ⟨g, c, hv, hb, hl⟩ := h.form hn
  injection hv with hv
  exact ⟨g, hv, hb, hl⟩
theorem row_lit1 {w : World} {B g : Nat} {t : TypeId} {a : Value} (h : w.heap[g]? = some (.cells #[a] t (0, 0))) (hg : g < B) : Row w B (some ⟨g, 0, none⟩) [a] :=
  .inr ⟨_, rfl, hg, fun j hj => by
    have : j = 0 := by simpa using hj
    subst this
    exact cell_of_row w g 0 _ t (0, 0) h⟩
theorem row_new1 {w : World} {t : TypeId} {a : Value} : Row (w.alloc (.cells #[a] t)) (w.heap.size + 1) (some ⟨w.heap.size, 0, none⟩) [a] := row_lit1 (heap_alloc_new w _) (Nat.lt_succ_self _)
theorem row_new {w : World} {t : TypeId} {cs : Array Value} {B : Nat} (hB : w.heap.size < B) : Row (w.alloc (.cells cs t)) B (some ⟨w.heap.size, 0, none⟩) cs.toList :=
  .inr ⟨_, rfl, hB, fun j hj => by
    have h := cell_of_row (w.alloc (.cells cs t)) w.heap.size j cs t (0, 0) (heap_alloc_new w _)
    unfold Addr.add
    by_cases h0 : j = 0
    · subst h0; rw [if_pos rfl]; simpa using h
    · rw [if_neg h0]; simpa using h⟩
end

/- Tape:
  stockyardmake.Tape: Next, Bytes: whatever the list holds, a number below n comes, and n bytes of an alphabet.
-/
section
set_option linter.unusedVariables false
set_option linter.unusedSimpArgs false
set_option linter.unnecessarySimpa false
open Go.RowKit
attribute [local go_sem ↓] Go.wp_at_zero Go.wp_at_succ

/-- block t is a tape over a list that lies below B; M: it has been read so often at most -/
structure Tp (w : World) (t B M : Nat) : Prop where
  ex : ∃ (A : Option Addr) (cap : Nat) (ls : List Int) (a : Nat), Blk w t 25 #[.slice A ls.length cap, .int .i64 a] ∧ Row w B A (ls.map (.int .i64)) ∧ (∀ z ∈ ls, -9223372036854775808 ≤ z ∧ z ≤ 9223372036854775807) ∧ ls.length ≤ 9223372036854775807 ∧ a ≤ M
  le : B ≤ t
section
variable {w w' : World} {t B M : Nat}
theorem Tp.lt (h : Tp w t B M) : t < w.heap.size := by obtain ⟨_, _, _, _, hB, _⟩ := h.ex; exact hB.lt
theorem Tp.ch {S : Nat → Prop} (h : Tp w t B M) (k : Ch S w w') (h1 : ¬ S t) (h2 : ∀ i, S i → B ≤ i) : Tp w' t B M := by
  have hl := h.lt
  have hle := h.le
  obtain ⟨A, cap, ls, a, hB, hr, r⟩ := h.ex
  exact ⟨⟨A, cap, ls, a, hB.ch k h1, hr.ch k (by omega) h2, r⟩, hle⟩
theorem Tp.of (h : Tp w t B M) (k : Below w.heap.size w w') : Tp w' t B M := h.ch (S := NoB) (Ch.of_below k) (fun h => h) (fun _ h => h.elim)
theorem Tp.more {M' : Nat} (h : Tp w t B M) (hm : M ≤ M') : Tp w t B M' := by
  obtain ⟨A, cap, ls, a, hB, hr, h1, h2, h3⟩ := h.ex
  exact ⟨⟨A, cap, ls, a, hB, hr, h1, h2, by omega⟩, h.le⟩
theorem Tp.new {A : Option Addr} {cap : Nat} {ls : List Int} (hr : Row w B A (ls.map (.int .i64))) (hB : B ≤ w.heap.size) (hz : ∀ z ∈ ls, -9223372036854775808 ≤ z ∧ z ≤ 9223372036854775807) (hm : ls.length ≤ 9223372036854775807) :
    Tp (w.alloc (.cells #[.slice A ls.length cap, .int .i64 0] 25)) w.heap.size B 0 :=
  ⟨⟨A, cap, ls, 0, Blk.new w _ _, hr.below (grew_alloc _ _) hB, hz, hm, Nat.le_refl _⟩, hB⟩
end
/-- what a read of the tape gives -/
def TpRes (t B M : Nat) (n : Int) (w : World) (e : Ending) (w' : World) : Prop := ∃ x : Nat, e = .returned (.int .i64 (x : Int)) ∧ ((x : Int) < n ∨ x = 0) ∧ Tp w' t B (M + 1) ∧ Ch (At t) w w'

set_option maxHeartbeats 1000000 in
theorem tapeNext_any (t B M : Nat) (n : Int) (w : World) (hT : Tp w t B M) (hn : n ≤ 9223372036854775807) (hM : M ≤ 1125899906842624) :
    Calls Try.prog 15 #[.pointer (some ⟨t, 0, none⟩), .int .i64 n] w (TpRes t B M n w) := by
  have hle := hT.le
  obtain ⟨A, cap, ls, a, hB, hr, hz, hm, ha⟩ := hT.ex
  have c0 : w.cell? ⟨t, 0, none⟩ = some (.slice A ls.length cap) := (hB.cell 0).trans rfl
  have c1 : w.cell? ⟨t, 1, none⟩ = some (.int .i64 a) := (hB.cell 1).trans rfl
  have f1 := hB.frozen 1
  have htl := hB.lt
  have fin : ∀ (w1 : World) (v : Int), Grew w w1 → TpRes t B M n w (.returned (.int .i64 (foldI v n))) (w1.setCell ⟨t, 1, none⟩ (.int .i64 ((a : Int) + 1))) := fun w1 v hg => by
    have f0 := foldI_lo v n
    refine ⟨(foldI v n).toNat, by rw [Int.toNat_of_nonneg f0], ?_, ⟨⟨A, cap, ls, a + 1, (hB.of hg).set_ 1 _, ?_, hz, hm, by omega⟩, hle⟩, (Ch.of_below hg).set_at 1 _⟩
    · rcases Int.lt_or_le n 1 with h | h
      · right; unfold foldI; rw [if_pos (by omega)]; rfl
      · left; rw [Int.toNat_of_nonneg f0]; exact foldI_hi v n h
    · have hg2 := (Ch.refl (At t) w1).set_at 1 (.int .i64 ((a : Int) + 1))
      exact (hr.below hg (by omega)).ch hg2 (by have := hg.size; omega) (fun i hi => by rw [hi]; exact hle)
  have Fin := Lib.hid fin
  have Hz := Lib.hid hz
  clear fin hz hT hB hle
  by_cases h1 : a < ls.length
  · obtain ⟨ad, rfl, hbl, hc⟩ := hr.at_ (k := a) (by simpa using h1)
    rw [List.getElem_map] at hc
    have hzb := Hz.out _ (List.getElem_mem h1)
    have HF := Lib.hid (fun W => fold_any ls[a] n hzb.1 hzb.2 hn W)
    go_enter Try.func15, Try.ntmps15
    go_wp2_with fail
    go_quiet (fail)
    go_wp2_with fail
    go_quiet (fail)
    go_wp2_with fail
    refine (HF.out _).mono ?_
    rintro e wn ⟨rfl, rfl⟩
    go_wp2_with fail
    go_ret
    exact Fin.out _ _ (grew_drawn ⟨_, rfl⟩)
  · have HF := Lib.hid (fun W => fold_any ((a : Int) * 7 % 11) n (by omega) (by omega) hn W)
    have g1 : ¬ ((a : Int) < ls.length) := by omega
    go_enter Try.func15, Try.ntmps15
    go_wp2_with fail
    go_quiet (fail)
    go_wp2_with fail
    refine (HF.out _).mono ?_
    rintro e wn ⟨rfl, rfl⟩
    go_wp2_with fail
    go_ret
    exact Fin.out _ _ (grew_drawn ⟨_, rfl⟩)

/-- bytes out of the tape -/
def BsRes (t B M n : Nat) (w : World) (e : Ending) (w' : World) : Prop := ∃ (A : Option Addr) (cap : Nat) (zs : List Int), e = .returned (.slice A n cap) ∧ zs.length = n ∧ (∀ z ∈ zs, 0 ≤ z ∧ z ≤ 255) ∧
  w'.ownsRow w.heap.size 5 1 (.slice A n cap) n (zs.map (.int .u8)) ∧ Tp w' t B (M + n) ∧ Ch (At t) w w'

end

end Go.Proofs.Ytpoiejgoongllaa
