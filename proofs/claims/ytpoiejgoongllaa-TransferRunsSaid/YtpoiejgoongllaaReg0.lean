/-
  Bits, Fp, Ids, Held, HeldK, Box, RegR.
-/
import Derived.Test.YtpoiejgoongllaaRows
import Derived.WalkKit
import Derived.WalkSpells
import Derived.WalkLawsBesides
import Derived.Lib.Mul64
import Derived.Lib.BitFns
import Derived.Laws.Bits64b
import Derived.Test.YtpoiejgoongllaaCutMath
import Derived.Lib.Hide
import Derived.Outline
import Derived.Deep.RegionHeld3
import Derived.Deep.DrawnRows
import Derived.Deep.QuietTactic
import Derived.BigQuiet
import Derived.OrdersHeld
import Derived.Deep.RegionHeld
namespace Go.Proofs.Ytpoiejgoongllaa
/- Bits:
  math/bits.Mul64, Len64, Len at this program's numbers: what each returns, for all arguments. The arithmetic is the library's.
-/
section
set_option linter.unusedVariables false
set_option linter.unusedSimpArgs false
set_option linter.unnecessarySimpa false
open Go.RowKit Go.Lib

namespace Mul64
theorem maskN (a : Nat) (ha : a < 18446744073709551616) : bits .and .u64 (a : Int) 4294967295 = ((a % 4294967296 : Nat) : Int) := by
  have h := bits_and_u64_nat a 4294967295 ha (by omega)
  have e : a &&& 4294967295 = a % 4294967296 := Nat.and_two_pow_sub_one_eq_mod a 32
  rw [e] at h
  exact h
theorem divN (a : Nat) : (a : Int) / 4294967296 = ((a / 4294967296 : Nat) : Int) := by omega
theorem mulN (a b : Nat) : (a : Int) * (b : Int) = ((a * b : Nat) : Int) := (Int.natCast_mul a b).symm
theorem addN (a b : Nat) : (a : Int) + (b : Int) = ((a + b : Nat) : Int) := (Int.natCast_add a b).symm
theorem wrapN (a : Nat) (ha : a < 18446744073709551616) : IntKind.u64.wrap (a : Int) = (a : Int) := by rw [IntKind.wrap_u64]; omega
theorem wrapM (a : Nat) : IntKind.u64.wrap (a : Int) = ((a % 18446744073709551616 : Nat) : Int) := by rw [IntKind.wrap_u64]; omega
end Mul64

set_option maxHeartbeats 1000000 in
theorem mul64_any (x y : Nat) (hx : x < 18446744073709551616) (hy : y < 18446744073709551616) (w : World) :
    Calls Try.prog 85 #[.int .u64 x, .int .u64 y] w fun e w' => e = .returned (.tuple #[.int .u64 ((x * y / 18446744073709551616 : Nat) : Int), .int .u64 ((x * y % 18446744073709551616 : Nat) : Int)]) ∧ w = w' := by
  obtain ⟨bd, bt, bw, hhi⟩ := Lib.mul64_hi x y hx hy
  have ba := Lib.half_mul_le (a := x / 4294967296) (b := y / 4294967296) (by omega) (by omega)
  have bb := Lib.half_mul_le (a := x / 4294967296) (b := y % 4294967296) (by omega) (by omega)
  have bc := Lib.half_mul_le (a := x % 4294967296) (b := y / 4294967296) (by omega) (by omega)
  have ba' : x / 4294967296 * (y / 4294967296) < 18446744073709551616 := by omega
  have bb' : x / 4294967296 * (y % 4294967296) < 18446744073709551616 := by omega
  have bc' : x % 4294967296 * (y / 4294967296) < 18446744073709551616 := by omega
  have bh1 : x / 4294967296 * (y / 4294967296) + (x / 4294967296 * (y % 4294967296) + x % 4294967296 * (y % 4294967296) / 4294967296) / 4294967296 < 18446744073709551616 := by omega
  have bh : x / 4294967296 * (y / 4294967296) + (x / 4294967296 * (y % 4294967296) + x % 4294967296 * (y % 4294967296) / 4294967296) / 4294967296 + ((x / 4294967296 * (y % 4294967296) + x % 4294967296 * (y % 4294967296) / 4294967296) % 4294967296 + x % 4294967296 * (y / 4294967296)) / 4294967296 < 18446744073709551616 := by omega
  go_enter Try.func85, Try.ntmps85
  go_wp2
  simp only [Mul64.maskN x hx, Mul64.maskN y hy, Mul64.divN, Mul64.mulN, Mul64.addN, Mul64.wrapN _ bd, Mul64.wrapN _ bb', Mul64.wrapN _ bt, Mul64.maskN _ bt, Mul64.wrapN _ bc', Mul64.wrapN _ bw, Mul64.wrapN _ ba', Mul64.wrapN _ bh1, Mul64.wrapN _ bh, Mul64.wrapM (x * y)]
  rw [hhi]
  go_ret2
  exact ⟨rfl, rfl⟩
end

/- Fp:
  fingerprint.add, multiply, subtract and the reference's Plus, Mul, Minus: what each returns for numbers below Prime.
-/
section
set_option linter.unusedVariables false
set_option linter.unusedSimpArgs false
set_option linter.unnecessarySimpa false
open Go.RowKit Go.Lib

theorem ret_u64 {a b : Int} (h : a = b) : Ending.returned (.int .u64 a) = .returned (.int .u64 b) := by rw [h]

set_option maxHeartbeats 400000 in
theorem add_any (a b : Int) (ha0 : 0 ≤ a) (ha : a < 2305843009213693951) (hb0 : 0 ≤ b) (hb : b < 2305843009213693951) (w : World) :
    Calls Try.prog 75 #[.int .u64 a, .int .u64 b] w fun e w' => e = .returned (.int .u64 (fadd a b)) ∧ w = w' := by
  go_enter Try.func75, Try.ntmps75
  go_wp2
  · have h : 2305843009213693951 ≤ a + b := by assumption
    go_ret
    exact ⟨ret_u64 (fadd_high (by omega) h), rfl⟩
  · have h : a + b < 2305843009213693951 := by assumption
    go_ret
    exact ⟨ret_u64 (fadd_low (by omega) h), rfl⟩

set_option maxHeartbeats 400000 in
/-- the reference's Plus: numbers of at most Prime -/
theorem plus_any (a b : Int) (ha0 : 0 ≤ a) (ha : a ≤ 2305843009213693951) (hb0 : 0 ≤ b) (hb : b ≤ 2305843009213693951) (w : World) :
    Calls Try.prog 83 #[.int .u64 a, .int .u64 b] w fun e w' => e = .returned (.int .u64 (fadd a b)) ∧ w = w' := by
  go_enter Try.func83, Try.ntmps83
  go_wp2
  all_goals go_ret
  all_goals refine ⟨ret_u64 ?_, rfl⟩
  all_goals (unfold fadd; omega)

/-- Mul64 over Int -/
theorem mul64_int (x y : Int) (hx0 : 0 ≤ x) (hx : x < 18446744073709551616) (hy0 : 0 ≤ y) (hy : y < 18446744073709551616) (w : World) :
    Calls Try.prog 85 #[.int .u64 x, .int .u64 y] w fun e w' => e = .returned (.tuple #[.int .u64 (x * y / 18446744073709551616), .int .u64 (x * y % 18446744073709551616)]) ∧ w = w' := by
  obtain ⟨a, rfl⟩ := Int.eq_ofNat_of_zero_le hx0
  obtain ⟨b, rfl⟩ := Int.eq_ofNat_of_zero_le hy0
  exact mul64_any a b (by omega) (by omega) w

set_option maxHeartbeats 400000 in
theorem multiply_any (a b : Int) (ha0 : 0 ≤ a) (ha : a < 2305843009213693951) (hb0 : 0 ≤ b) (hb : b < 2305843009213693951) (w : World) :
    Calls Try.prog 76 #[.int .u64 a, .int .u64 b] w fun e w' => e = .returned (.int .u64 (fmul a b)) ∧ w = w' := by
  have HB := Lib.hid (words_hi a b ⟨ha0, ha⟩ ⟨hb0, hb⟩)
  have HW := Lib.hid (words_eq (a * b))
  go_enter Try.func76, Try.ntmps76
  go_wp2_with fail
  refine (mul64_int _ _ (by omega) (by omega) (by omega) (by omega) _).mono ?_
  rintro e w' ⟨rfl, rfl⟩
  obtain ⟨B0, B1⟩ := HB.out
  have L0 : 0 ≤ a * b % 18446744073709551616 := by omega
  have L1 : a * b % 18446744073709551616 < 18446744073709551616 := by omega
  have HW' := HW.out
  clear HB HW
  generalize a * b / 18446744073709551616 = hi at *
  generalize a * b % 18446744073709551616 = lo at *
  have HW := Lib.hid (fmul_words a b hi lo HW')
  clear HW'
  have HL := Lib.hid (low61 lo L0 L1)
  have HH := Lib.hid (high61 hi lo B0 B1 L0 L1)
  go_wp2_with fail
  rw [HL.out, HH.out, Int.tmod_eq_emod_of_nonneg (by omega), Int.tmod_eq_emod_of_nonneg (by omega)]
  refine (add_any _ _ (by omega) (by omega) (by omega) (by omega) _).mono ?_
  rintro e w' ⟨rfl, rfl⟩
  go_wp2
  go_ret
  exact ⟨ret_u64 HW.out, rfl⟩

set_option maxHeartbeats 400000 in
theorem mul_any (a b : Int) (ha0 : 0 ≤ a) (ha : a < 2305843009213693951) (hb0 : 0 ≤ b) (hb : b < 2305843009213693951) (w : World) :
    Calls Try.prog 84 #[.int .u64 a, .int .u64 b] w fun e w' => e = .returned (.int .u64 (fmul a b)) ∧ w = w' := by
  have HB := Lib.hid (words_hi a b ⟨ha0, ha⟩ ⟨hb0, hb⟩)
  have HW := Lib.hid (words_eq (a * b))
  go_enter Try.func84, Try.ntmps84
  go_wp2_with fail
  refine (mul64_int _ _ (by omega) (by omega) (by omega) (by omega) _).mono ?_
  rintro e w' ⟨rfl, rfl⟩
  obtain ⟨B0, B1⟩ := HB.out
  have L0 : 0 ≤ a * b % 18446744073709551616 := by omega
  have L1 : a * b % 18446744073709551616 < 18446744073709551616 := by omega
  have HW' := HW.out
  clear HB HW
  generalize a * b / 18446744073709551616 = hi at *
  generalize a * b % 18446744073709551616 = lo at *
  have HW := Lib.hid (fmul_words' a b hi lo HW')
  clear HW'
  have HL := Lib.hid (low61 lo L0 L1)
  have HH := Lib.hid (high61 hi lo B0 B1 L0 L1)
  go_wp2_with fail
  rw [HL.out, HH.out]
  refine (plus_any _ _ (by omega) (by omega) (by omega) (by omega) _).mono ?_
  rintro e w' ⟨rfl, rfl⟩
  go_wp2
  go_ret
  exact ⟨ret_u64 HW.out, rfl⟩


end

/- Ids:
  stockyardmake.Fold; fingerprint.Valid and the reference's Valid.
-/
section
set_option linter.unusedVariables false
set_option linter.unusedSimpArgs false
set_option linter.unnecessarySimpa false
open Go.RowKit Go.Lib

theorem ret_i64 {a b : Int} (h : a = b) : Ending.returned (.int .i64 a) = .returned (.int .i64 b) := by rw [h]
theorem ret_bool {a b : Bool} (h : a = b) : Ending.returned (.bool a) = .returned (.bool b) := by rw [h]

set_option maxHeartbeats 400000 in
theorem valid_any (s n : Int) (w : World) :
    Calls Try.prog 79 #[.agg #[.int .u64 s, .int .i64 n]] w fun e w' => e = .returned (.bool (vldB s n)) ∧ Below w.heap.size w w' := by
  go_enter Try.func79, Try.ntmps79
  go_wp2
  all_goals go_ret
  all_goals refine ⟨ret_bool ?_, (Below.refl _ _).alloc (Nat.le_refl _) _⟩
  all_goals (rw [Bool.eq_iff_iff, vldB_iff]; first | omega | (simp; done) | (simp; omega))

set_option maxHeartbeats 400000 in
theorem refValid_any (s n : Int) (w : World) :
    Calls Try.prog 77 #[.agg #[.int .u64 s, .int .i64 n]] w fun e w' => e = .returned (.bool (vldB s n)) ∧ Below w.heap.size w w' := by
  go_enter Try.func77, Try.ntmps77
  go_wp2
  all_goals go_ret
  all_goals refine ⟨ret_bool ?_, (Below.refl _ _).alloc (Nat.le_refl _) _⟩
  all_goals (rw [Bool.eq_iff_iff, vldB_iff]; first | omega | (simp; done) | (simp; omega))

set_option maxHeartbeats 400000 in
theorem fold_any (v n : Int) (h0 : -9223372036854775808 ≤ v) (h1 : v ≤ 9223372036854775807) (n1 : n ≤ 9223372036854775807) (w : World) :
    Calls Try.prog 42 #[.int .i64 v, .int .i64 n] w fun e w' => e = .returned (.int .i64 (foldI v n)) ∧ w = w' := by
  go_enter Try.func42, Try.ntmps42
  go_wp2
  all_goals go_ret
  · exact ⟨ret_i64 (foldI_one (by assumption)), rfl⟩
  · have h2 : 1 < n := by assumption
    have h3 : v.tmod n < 0 := by assumption
    refine ⟨ret_i64 ?_, rfl⟩
    rw [IntWalk.wrap64_in _ (by have := tmod_bd v h2; omega)]
    exact foldI_neg h2 h3
  · exact ⟨ret_i64 (foldI_pos (by assumption) (by assumption)), rfl⟩
end

/- Held:
  Small lemmas on worlds: what a region's held facts come to behind a call that lays new blocks alone.
-/
section
set_option linter.unusedVariables false
set_option linter.unusedSimpArgs false
set_option linter.unnecessarySimpa false
open Go.RowKit Go.Lib

/-- w' is w behind some draws -/
def Drawn (w w' : World) : Prop := ∃ n, w' = w.drewN n
theorem Drawn.refl (w : World) : Drawn w w := ⟨0, rfl⟩
theorem Drawn.drewN {w w' : World} (h : Drawn w w') (n : Nat) : Drawn w (w'.drewN n) := by
  obtain ⟨m, rfl⟩ := h
  exact ⟨m + n, by rw [World.drewN_drewN]⟩
theorem Drawn.drew {w w' : World} (h : Drawn w w') : Drawn w w'.drew := h.drewN 1
theorem Drawn.trans {a b c : World} (h : Drawn a b) (k : Drawn b c) : Drawn a c := by
  obtain ⟨m, rfl⟩ := k
  exact h.drewN m
theorem Drawn.cell {w w' : World} (h : Drawn w w') (p : Addr) : w'.cell? p = w.cell? p := by
  obtain ⟨m, rfl⟩ := h
  rfl
theorem below_drewN {B : Nat} {a w : World} (h : Below B a w) (n : Nat) : Below B a (w.drewN n) := ⟨h.os, h.tape, h.output, h.size, h.block⟩
theorem Drawn.below {w w' : World} (h : Drawn w w') (B : Nat) : Below B w w' := by
  obtain ⟨m, rfl⟩ := h
  exact below_drewN (Below.refl _ _) m
theorem quiet_same {P : Program} {f : FuncId} {args : Array Value} {w : World} {n : Nat} {v : Value} (h : Calls P f args (w.drewN n) fun e w' => e = .returned v ∧ w.drewN n = w') :
    Calls P f args (w.drewN n) fun e w'' => e = .returned v ∧ ∃ m, w'' = w.drewN m :=
  h.mono fun _ _ ⟨he, hm⟩ => ⟨he, n, hm.symm⟩
theorem quiet_drawn {P : Program} {f : FuncId} {args : Array Value} {w : World} {n : Nat} {v : Value} (h : Calls P f args (w.drewN n) fun e w' => e = .returned v ∧ Drawn (w.drewN n) w') :
    Calls P f args (w.drewN n) fun e w'' => e = .returned v ∧ ∃ m, w'' = w.drewN m :=
  h.mono fun _ _ ⟨he, m, hm⟩ => ⟨he, n + m, by rw [hm, World.drewN_drewN]⟩

/-- below N all cells and marks read as before: two rules for the walk -/
theorem bcell {N : Nat} {W w1 : World} (hb : Below N W w1) : (∀ b o, b < N → w1.cell? ⟨b, o, none⟩ = W.cell? ⟨b, o, none⟩) ∧ (∀ b o, b < N → w1.frozen? ⟨b, o, none⟩ = W.frozen? ⟨b, o, none⟩) :=
  ⟨fun b o h => hb.cell (p := ⟨b, o, none⟩) h, fun b o h => hb.frozen (p := ⟨b, o, none⟩) h⟩

theorem below_then {W w1 w2 : World} (h : Below W.heap.size W w1) (k : Below w1.heap.size w1 w2) : Below W.heap.size W w2 := h.trans (k.mono h.size)
/-- .. with the size of the first world in the walk's own form -/
theorem bcell' {N : Nat} {W w1 : World} (hb : Below W.heap.size W w1) (hN : W.heap.size = N) :
    (∀ b o, b < N → w1.cell? ⟨b, o, none⟩ = W.cell? ⟨b, o, none⟩) ∧ (∀ b o, b < N → w1.frozen? ⟨b, o, none⟩ = W.frozen? ⟨b, o, none⟩) ∧ N ≤ w1.heap.size := by
  subst hN
  exact ⟨(bcell hb).1, (bcell hb).2, hb.size⟩

/-- the frame of a region: the world is the old one below B, and has at least N blocks -/
theorem held0 {w W w1 : World} {B N : Nat} (hb : Below W.heap.size W w1) (h : Below B w W ∧ N ≤ W.heap.size) (hB : B ≤ N) : Below B w w1 ∧ N ≤ w1.heap.size :=
  ⟨h.1.trans (hb.mono (by omega)), Nat.le_trans h.2 hb.size⟩
theorem held2 {w W w1 : World} {B N : Nat} {p q : Addr} {a b : Value} (hb : Below W.heap.size W w1)
    (h : W.cell? p = some a ∧ W.cell? q = some b ∧ Below B w W ∧ N ≤ W.heap.size) (hB : B ≤ N) (hp : p.block < N) (hq : q.block < N) :
    w1.cell? p = some a ∧ w1.cell? q = some b ∧ Below B w w1 ∧ N ≤ w1.heap.size :=
  ⟨(hb.cell (by omega)).trans h.1, (hb.cell (by omega)).trans h.2.1, held0 hb h.2.2 hB⟩
theorem held4 {w W w1 : World} {B N : Nat} {p q p' q' : Addr} {a b a' b' : Value} (hb : Below W.heap.size W w1)
    (h : W.cell? p = some a ∧ W.cell? q = some b ∧ W.cell? p' = some a' ∧ W.cell? q' = some b' ∧ Below B w W ∧ N ≤ W.heap.size) (hB : B ≤ N) (hp : p.block < N) (hq : q.block < N) (hp' : p'.block < N) (hq' : q'.block < N) :
    w1.cell? p = some a ∧ w1.cell? q = some b ∧ w1.cell? p' = some a' ∧ w1.cell? q' = some b' ∧ Below B w w1 ∧ N ≤ w1.heap.size :=
  ⟨(hb.cell (by omega)).trans h.1, (hb.cell (by omega)).trans h.2.1, held2 hb h.2.2 hB hp' hq'⟩

theorem valid_yes (s n : Int) (h : vldB s n = true) (w : World) :
    Calls Try.prog 79 #[.agg #[.int .u64 s, .int .i64 n]] w fun e w' => e = .returned (.bool true) ∧ Below w.heap.size w w' := by
  rw [← h]; exact valid_any s n w
theorem valid_no (s n : Int) (h : vldB s n = false) (w : World) :
    Calls Try.prog 79 #[.agg #[.int .u64 s, .int .i64 n]] w fun e w' => e = .returned (.bool false) ∧ Below w.heap.size w w' := by
  rw [← h]; exact valid_any s n w
theorem refValid_yes (s n : Int) (h : vldB s n = true) (w : World) :
    Calls Try.prog 77 #[.agg #[.int .u64 s, .int .i64 n]] w fun e w' => e = .returned (.bool true) ∧ Below w.heap.size w w' := by
  rw [← h]; exact refValid_any s n w
theorem refValid_no (s n : Int) (h : vldB s n = false) (w : World) :
    Calls Try.prog 77 #[.agg #[.int .u64 s, .int .i64 n]] w fun e w' => e = .returned (.bool false) ∧ Below w.heap.size w w' := by
  rw [← h]; exact refValid_any s n w
end

/- HeldK:
  Known cells and the frame of a region, carried over a call that lays new blocks alone, over a new block, over a store into a younger block.
-/
section
set_option linter.unusedVariables false
set_option linter.unusedSimpArgs false
set_option linter.unnecessarySimpa false
open Go.RowKit

/-- a region that comes to one frame and one world, whatever its order -/
theorem region_same {P : Program} {c : Code} {K : Act → World → Prop} {Q : Exit → Act → World → Prop} {a : Act} {w : World} (A : Act) (W : World)
    (h : c.wp P (fun e a' w' => e = .normal ∧ a' = A ∧ w' = W) a w) (k : K A W) : c.wp P (Exit.then K Q) a w := by
  refine Code.wp_mono ?_ h
  rintro e a' w' ⟨rfl, rfl, rfl⟩
  exact k
/-- a region that comes to one frame, and to a world of which R holds -/
theorem region_meet {P : Program} {c : Code} {K : Act → World → Prop} {Q : Exit → Act → World → Prop} {a : Act} {w : World} (A : Act) (R : World → Prop)
    (h : c.wp P (fun e a' w' => e = .normal ∧ a' = A ∧ R w') a w) (k : ∀ W, R W → K A W) : c.wp P (Exit.then K Q) a w := by
  refine Code.wp_mono ?_ h
  rintro e a' w' ⟨rfl, rfl, hr⟩
  exact k _ hr

theorem held0_below {w W w1 : World} {B N : Nat} (hb : Below N W w1) (h : Below B w W ∧ N ≤ W.heap.size) (hB : B ≤ N) : Below B w w1 ∧ N ≤ w1.heap.size :=
  ⟨h.1.trans (hb.mono hB), Nat.le_trans h.2 hb.size⟩
theorem below_alloc' {W : World} {N : Nat} (h : N ≤ W.heap.size) (o : Obj) : Below N W (W.alloc o) := (Below.refl _ _).alloc h o
theorem below_set' {W : World} {N : Nat} {q : Addr} (h : N ≤ q.block) (v : Value) : Below N W (W.setCell q v) := (Below.refl _ _).setCell h v
theorem below_call' {W w1 : World} {N : Nat} (hb : Below W.heap.size W w1) (h : N ≤ W.heap.size) : Below N W w1 := hb.mono h

theorem held0_drew {w W : World} {B N : Nat} (h : Below B w W ∧ N ≤ W.heap.size) : Below B w W.drew ∧ N ≤ W.drew.heap.size :=
  ⟨h.1.drew, h.2⟩
theorem held0_call {w W w1 : World} {B N : Nat} (hb : Below W.heap.size W w1) (h : Below B w W ∧ N ≤ W.heap.size) (hB : B ≤ N)  : Below B w w1 ∧ N ≤ w1.heap.size :=
  held0_below (below_call' hb h.2) h hB 
theorem held0_alloc {w W : World} {B N : Nat} {o : Obj} (h : Below B w W ∧ N ≤ W.heap.size) (hB : B ≤ N)  : Below B w (W.alloc o) ∧ N ≤ (W.alloc o).heap.size :=
  held0_below (below_alloc' h.2 o) h hB 
theorem held0_set {w W : World} {B N : Nat} {q : Addr} {v : Value} (h : Below B w W ∧ N ≤ W.heap.size) (hB : B ≤ N)  (hq : N ≤ q.block) : Below B w (W.setCell q v) ∧ N ≤ (W.setCell q v).heap.size :=
  held0_below (below_set' hq v) h hB 
theorem held1_below {w W w1 : World} {B N : Nat} {p0 : Addr} {a0 : Value} (hb : Below N W w1) (h : W.cell? p0 = some a0 ∧ Below B w W ∧ N ≤ W.heap.size) (hB : B ≤ N) (hp0 : p0.block < N) : w1.cell? p0 = some a0 ∧ Below B w w1 ∧ N ≤ w1.heap.size :=
  ⟨(hb.cell hp0).trans h.1, held0_below hb h.2 hB⟩
theorem held1_drew {w W : World} {B N : Nat} {p0 : Addr} {a0 : Value} (h : W.cell? p0 = some a0 ∧ Below B w W ∧ N ≤ W.heap.size) : W.drew.cell? p0 = some a0 ∧ Below B w W.drew ∧ N ≤ W.drew.heap.size :=
  ⟨h.1, h.2.1.drew, h.2.2⟩
theorem held1_call {w W w1 : World} {B N : Nat} {p0 : Addr} {a0 : Value} (hb : Below W.heap.size W w1) (h : W.cell? p0 = some a0 ∧ Below B w W ∧ N ≤ W.heap.size) (hB : B ≤ N) (hp0 : p0.block < N) : w1.cell? p0 = some a0 ∧ Below B w w1 ∧ N ≤ w1.heap.size :=
  held1_below (below_call' hb h.2.2) h hB hp0
theorem held1_alloc {w W : World} {B N : Nat} {o : Obj} {p0 : Addr} {a0 : Value} (h : W.cell? p0 = some a0 ∧ Below B w W ∧ N ≤ W.heap.size) (hB : B ≤ N) (hp0 : p0.block < N) : (W.alloc o).cell? p0 = some a0 ∧ Below B w (W.alloc o) ∧ N ≤ (W.alloc o).heap.size :=
  held1_below (below_alloc' h.2.2 o) h hB hp0
theorem held1_set {w W : World} {B N : Nat} {q : Addr} {v : Value} {p0 : Addr} {a0 : Value} (h : W.cell? p0 = some a0 ∧ Below B w W ∧ N ≤ W.heap.size) (hB : B ≤ N) (hp0 : p0.block < N) (hq : N ≤ q.block) : (W.setCell q v).cell? p0 = some a0 ∧ Below B w (W.setCell q v) ∧ N ≤ (W.setCell q v).heap.size :=
  held1_below (below_set' hq v) h hB hp0
theorem held2_below {w W w1 : World} {B N : Nat} {p0 p1 : Addr} {a0 a1 : Value} (hb : Below N W w1) (h : W.cell? p0 = some a0 ∧ W.cell? p1 = some a1 ∧ Below B w W ∧ N ≤ W.heap.size) (hB : B ≤ N) (hp0 : p0.block < N) (hp1 : p1.block < N) : w1.cell? p0 = some a0 ∧ w1.cell? p1 = some a1 ∧ Below B w w1 ∧ N ≤ w1.heap.size :=
  ⟨(hb.cell hp0).trans h.1, (hb.cell hp1).trans h.2.1, held0_below hb h.2.2 hB⟩
theorem held2_drew {w W : World} {B N : Nat} {p0 p1 : Addr} {a0 a1 : Value} (h : W.cell? p0 = some a0 ∧ W.cell? p1 = some a1 ∧ Below B w W ∧ N ≤ W.heap.size) : W.drew.cell? p0 = some a0 ∧ W.drew.cell? p1 = some a1 ∧ Below B w W.drew ∧ N ≤ W.drew.heap.size :=
  ⟨h.1, h.2.1, h.2.2.1.drew, h.2.2.2⟩
theorem held2_call {w W w1 : World} {B N : Nat} {p0 p1 : Addr} {a0 a1 : Value} (hb : Below W.heap.size W w1) (h : W.cell? p0 = some a0 ∧ W.cell? p1 = some a1 ∧ Below B w W ∧ N ≤ W.heap.size) (hB : B ≤ N) (hp0 : p0.block < N) (hp1 : p1.block < N) : w1.cell? p0 = some a0 ∧ w1.cell? p1 = some a1 ∧ Below B w w1 ∧ N ≤ w1.heap.size :=
  held2_below (below_call' hb h.2.2.2) h hB hp0 hp1
theorem held2_alloc {w W : World} {B N : Nat} {o : Obj} {p0 p1 : Addr} {a0 a1 : Value} (h : W.cell? p0 = some a0 ∧ W.cell? p1 = some a1 ∧ Below B w W ∧ N ≤ W.heap.size) (hB : B ≤ N) (hp0 : p0.block < N) (hp1 : p1.block < N) : (W.alloc o).cell? p0 = some a0 ∧ (W.alloc o).cell? p1 = some a1 ∧ Below B w (W.alloc o) ∧ N ≤ (W.alloc o).heap.size :=
  held2_below (below_alloc' h.2.2.2 o) h hB hp0 hp1
theorem held2_set {w W : World} {B N : Nat} {q : Addr} {v : Value} {p0 p1 : Addr} {a0 a1 : Value} (h : W.cell? p0 = some a0 ∧ W.cell? p1 = some a1 ∧ Below B w W ∧ N ≤ W.heap.size) (hB : B ≤ N) (hp0 : p0.block < N) (hp1 : p1.block < N) (hq : N ≤ q.block) : (W.setCell q v).cell? p0 = some a0 ∧ (W.setCell q v).cell? p1 = some a1 ∧ Below B w (W.setCell q v) ∧ N ≤ (W.setCell q v).heap.size :=
  held2_below (below_set' hq v) h hB hp0 hp1
theorem held3_below {w W w1 : World} {B N : Nat} {p0 p1 p2 : Addr} {a0 a1 a2 : Value} (hb : Below N W w1) (h : W.cell? p0 = some a0 ∧ W.cell? p1 = some a1 ∧ W.cell? p2 = some a2 ∧ Below B w W ∧ N ≤ W.heap.size) (hB : B ≤ N) (hp0 : p0.block < N) (hp1 : p1.block < N) (hp2 : p2.block < N) : w1.cell? p0 = some a0 ∧ w1.cell? p1 = some a1 ∧ w1.cell? p2 = some a2 ∧ Below B w w1 ∧ N ≤ w1.heap.size :=
  ⟨(hb.cell hp0).trans h.1, (hb.cell hp1).trans h.2.1, (hb.cell hp2).trans h.2.2.1, held0_below hb h.2.2.2 hB⟩
theorem held3_drew {w W : World} {B N : Nat} {p0 p1 p2 : Addr} {a0 a1 a2 : Value} (h : W.cell? p0 = some a0 ∧ W.cell? p1 = some a1 ∧ W.cell? p2 = some a2 ∧ Below B w W ∧ N ≤ W.heap.size) : W.drew.cell? p0 = some a0 ∧ W.drew.cell? p1 = some a1 ∧ W.drew.cell? p2 = some a2 ∧ Below B w W.drew ∧ N ≤ W.drew.heap.size :=
  ⟨h.1, h.2.1, h.2.2.1, h.2.2.2.1.drew, h.2.2.2.2⟩
theorem held3_call {w W w1 : World} {B N : Nat} {p0 p1 p2 : Addr} {a0 a1 a2 : Value} (hb : Below W.heap.size W w1) (h : W.cell? p0 = some a0 ∧ W.cell? p1 = some a1 ∧ W.cell? p2 = some a2 ∧ Below B w W ∧ N ≤ W.heap.size) (hB : B ≤ N) (hp0 : p0.block < N) (hp1 : p1.block < N) (hp2 : p2.block < N) : w1.cell? p0 = some a0 ∧ w1.cell? p1 = some a1 ∧ w1.cell? p2 = some a2 ∧ Below B w w1 ∧ N ≤ w1.heap.size :=
  held3_below (below_call' hb h.2.2.2.2) h hB hp0 hp1 hp2
theorem held3_alloc {w W : World} {B N : Nat} {o : Obj} {p0 p1 p2 : Addr} {a0 a1 a2 : Value} (h : W.cell? p0 = some a0 ∧ W.cell? p1 = some a1 ∧ W.cell? p2 = some a2 ∧ Below B w W ∧ N ≤ W.heap.size) (hB : B ≤ N) (hp0 : p0.block < N) (hp1 : p1.block < N) (hp2 : p2.block < N) : (W.alloc o).cell? p0 = some a0 ∧ (W.alloc o).cell? p1 = some a1 ∧ (W.alloc o).cell? p2 = some a2 ∧ Below B w (W.alloc o) ∧ N ≤ (W.alloc o).heap.size :=
  held3_below (below_alloc' h.2.2.2.2 o) h hB hp0 hp1 hp2
theorem held3_set {w W : World} {B N : Nat} {q : Addr} {v : Value} {p0 p1 p2 : Addr} {a0 a1 a2 : Value} (h : W.cell? p0 = some a0 ∧ W.cell? p1 = some a1 ∧ W.cell? p2 = some a2 ∧ Below B w W ∧ N ≤ W.heap.size) (hB : B ≤ N) (hp0 : p0.block < N) (hp1 : p1.block < N) (hp2 : p2.block < N) (hq : N ≤ q.block) : (W.setCell q v).cell? p0 = some a0 ∧ (W.setCell q v).cell? p1 = some a1 ∧ (W.setCell q v).cell? p2 = some a2 ∧ Below B w (W.setCell q v) ∧ N ≤ (W.setCell q v).heap.size :=
  held3_below (below_set' hq v) h hB hp0 hp1 hp2
theorem held4_below {w W w1 : World} {B N : Nat} {p0 p1 p2 p3 : Addr} {a0 a1 a2 a3 : Value} (hb : Below N W w1) (h : W.cell? p0 = some a0 ∧ W.cell? p1 = some a1 ∧ W.cell? p2 = some a2 ∧ W.cell? p3 = some a3 ∧ Below B w W ∧ N ≤ W.heap.size) (hB : B ≤ N) (hp0 : p0.block < N) (hp1 : p1.block < N) (hp2 : p2.block < N) (hp3 : p3.block < N) : w1.cell? p0 = some a0 ∧ w1.cell? p1 = some a1 ∧ w1.cell? p2 = some a2 ∧ w1.cell? p3 = some a3 ∧ Below B w w1 ∧ N ≤ w1.heap.size :=
  ⟨(hb.cell hp0).trans h.1, (hb.cell hp1).trans h.2.1, (hb.cell hp2).trans h.2.2.1, (hb.cell hp3).trans h.2.2.2.1, held0_below hb h.2.2.2.2 hB⟩
theorem held4_drew {w W : World} {B N : Nat} {p0 p1 p2 p3 : Addr} {a0 a1 a2 a3 : Value} (h : W.cell? p0 = some a0 ∧ W.cell? p1 = some a1 ∧ W.cell? p2 = some a2 ∧ W.cell? p3 = some a3 ∧ Below B w W ∧ N ≤ W.heap.size) : W.drew.cell? p0 = some a0 ∧ W.drew.cell? p1 = some a1 ∧ W.drew.cell? p2 = some a2 ∧ W.drew.cell? p3 = some a3 ∧ Below B w W.drew ∧ N ≤ W.drew.heap.size :=
  ⟨h.1, h.2.1, h.2.2.1, h.2.2.2.1, h.2.2.2.2.1.drew, h.2.2.2.2.2⟩
theorem held4_call {w W w1 : World} {B N : Nat} {p0 p1 p2 p3 : Addr} {a0 a1 a2 a3 : Value} (hb : Below W.heap.size W w1) (h : W.cell? p0 = some a0 ∧ W.cell? p1 = some a1 ∧ W.cell? p2 = some a2 ∧ W.cell? p3 = some a3 ∧ Below B w W ∧ N ≤ W.heap.size) (hB : B ≤ N) (hp0 : p0.block < N) (hp1 : p1.block < N) (hp2 : p2.block < N) (hp3 : p3.block < N) : w1.cell? p0 = some a0 ∧ w1.cell? p1 = some a1 ∧ w1.cell? p2 = some a2 ∧ w1.cell? p3 = some a3 ∧ Below B w w1 ∧ N ≤ w1.heap.size :=
  held4_below (below_call' hb h.2.2.2.2.2) h hB hp0 hp1 hp2 hp3
theorem held4_alloc {w W : World} {B N : Nat} {o : Obj} {p0 p1 p2 p3 : Addr} {a0 a1 a2 a3 : Value} (h : W.cell? p0 = some a0 ∧ W.cell? p1 = some a1 ∧ W.cell? p2 = some a2 ∧ W.cell? p3 = some a3 ∧ Below B w W ∧ N ≤ W.heap.size) (hB : B ≤ N) (hp0 : p0.block < N) (hp1 : p1.block < N) (hp2 : p2.block < N) (hp3 : p3.block < N) : (W.alloc o).cell? p0 = some a0 ∧ (W.alloc o).cell? p1 = some a1 ∧ (W.alloc o).cell? p2 = some a2 ∧ (W.alloc o).cell? p3 = some a3 ∧ Below B w (W.alloc o) ∧ N ≤ (W.alloc o).heap.size :=
  held4_below (below_alloc' h.2.2.2.2.2 o) h hB hp0 hp1 hp2 hp3
theorem held4_set {w W : World} {B N : Nat} {q : Addr} {v : Value} {p0 p1 p2 p3 : Addr} {a0 a1 a2 a3 : Value} (h : W.cell? p0 = some a0 ∧ W.cell? p1 = some a1 ∧ W.cell? p2 = some a2 ∧ W.cell? p3 = some a3 ∧ Below B w W ∧ N ≤ W.heap.size) (hB : B ≤ N) (hp0 : p0.block < N) (hp1 : p1.block < N) (hp2 : p2.block < N) (hp3 : p3.block < N) (hq : N ≤ q.block) : (W.setCell q v).cell? p0 = some a0 ∧ (W.setCell q v).cell? p1 = some a1 ∧ (W.setCell q v).cell? p2 = some a2 ∧ (W.setCell q v).cell? p3 = some a3 ∧ Below B w (W.setCell q v) ∧ N ≤ (W.setCell q v).heap.size :=
  held4_below (below_set' hq v) h hB hp0 hp1 hp2 hp3
theorem held5_below {w W w1 : World} {B N : Nat} {p0 p1 p2 p3 p4 : Addr} {a0 a1 a2 a3 a4 : Value} (hb : Below N W w1) (h : W.cell? p0 = some a0 ∧ W.cell? p1 = some a1 ∧ W.cell? p2 = some a2 ∧ W.cell? p3 = some a3 ∧ W.cell? p4 = some a4 ∧ Below B w W ∧ N ≤ W.heap.size) (hB : B ≤ N) (hp0 : p0.block < N) (hp1 : p1.block < N) (hp2 : p2.block < N) (hp3 : p3.block < N) (hp4 : p4.block < N) : w1.cell? p0 = some a0 ∧ w1.cell? p1 = some a1 ∧ w1.cell? p2 = some a2 ∧ w1.cell? p3 = some a3 ∧ w1.cell? p4 = some a4 ∧ Below B w w1 ∧ N ≤ w1.heap.size :=
  ⟨(hb.cell hp0).trans h.1, (hb.cell hp1).trans h.2.1, (hb.cell hp2).trans h.2.2.1, (hb.cell hp3).trans h.2.2.2.1, (hb.cell hp4).trans h.2.2.2.2.1, held0_below hb h.2.2.2.2.2 hB⟩
theorem held5_drew {w W : World} {B N : Nat} {p0 p1 p2 p3 p4 : Addr} {a0 a1 a2 a3 a4 : Value} (h : W.cell? p0 = some a0 ∧ W.cell? p1 = some a1 ∧ W.cell? p2 = some a2 ∧ W.cell? p3 = some a3 ∧ W.cell? p4 = some a4 ∧ Below B w W ∧ N ≤ W.heap.size) : W.drew.cell? p0 = some a0 ∧ W.drew.cell? p1 = some a1 ∧ W.drew.cell? p2 = some a2 ∧ W.drew.cell? p3 = some a3 ∧ W.drew.cell? p4 = some a4 ∧ Below B w W.drew ∧ N ≤ W.drew.heap.size :=
  ⟨h.1, h.2.1, h.2.2.1, h.2.2.2.1, h.2.2.2.2.1, h.2.2.2.2.2.1.drew, h.2.2.2.2.2.2⟩
theorem held5_call {w W w1 : World} {B N : Nat} {p0 p1 p2 p3 p4 : Addr} {a0 a1 a2 a3 a4 : Value} (hb : Below W.heap.size W w1) (h : W.cell? p0 = some a0 ∧ W.cell? p1 = some a1 ∧ W.cell? p2 = some a2 ∧ W.cell? p3 = some a3 ∧ W.cell? p4 = some a4 ∧ Below B w W ∧ N ≤ W.heap.size) (hB : B ≤ N) (hp0 : p0.block < N) (hp1 : p1.block < N) (hp2 : p2.block < N) (hp3 : p3.block < N) (hp4 : p4.block < N) : w1.cell? p0 = some a0 ∧ w1.cell? p1 = some a1 ∧ w1.cell? p2 = some a2 ∧ w1.cell? p3 = some a3 ∧ w1.cell? p4 = some a4 ∧ Below B w w1 ∧ N ≤ w1.heap.size :=
  held5_below (below_call' hb h.2.2.2.2.2.2) h hB hp0 hp1 hp2 hp3 hp4
theorem held5_alloc {w W : World} {B N : Nat} {o : Obj} {p0 p1 p2 p3 p4 : Addr} {a0 a1 a2 a3 a4 : Value} (h : W.cell? p0 = some a0 ∧ W.cell? p1 = some a1 ∧ W.cell? p2 = some a2 ∧ W.cell? p3 = some a3 ∧ W.cell? p4 = some a4 ∧ Below B w W ∧ N ≤ W.heap.size) (hB : B ≤ N) (hp0 : p0.block < N) (hp1 : p1.block < N) (hp2 : p2.block < N) (hp3 : p3.block < N) (hp4 : p4.block < N) : (W.alloc o).cell? p0 = some a0 ∧ (W.alloc o).cell? p1 = some a1 ∧ (W.alloc o).cell? p2 = some a2 ∧ (W.alloc o).cell? p3 = some a3 ∧ (W.alloc o).cell? p4 = some a4 ∧ Below B w (W.alloc o) ∧ N ≤ (W.alloc o).heap.size :=
  held5_below (below_alloc' h.2.2.2.2.2.2 o) h hB hp0 hp1 hp2 hp3 hp4
theorem held5_set {w W : World} {B N : Nat} {q : Addr} {v : Value} {p0 p1 p2 p3 p4 : Addr} {a0 a1 a2 a3 a4 : Value} (h : W.cell? p0 = some a0 ∧ W.cell? p1 = some a1 ∧ W.cell? p2 = some a2 ∧ W.cell? p3 = some a3 ∧ W.cell? p4 = some a4 ∧ Below B w W ∧ N ≤ W.heap.size) (hB : B ≤ N) (hp0 : p0.block < N) (hp1 : p1.block < N) (hp2 : p2.block < N) (hp3 : p3.block < N) (hp4 : p4.block < N) (hq : N ≤ q.block) : (W.setCell q v).cell? p0 = some a0 ∧ (W.setCell q v).cell? p1 = some a1 ∧ (W.setCell q v).cell? p2 = some a2 ∧ (W.setCell q v).cell? p3 = some a3 ∧ (W.setCell q v).cell? p4 = some a4 ∧ Below B w (W.setCell q v) ∧ N ≤ (W.setCell q v).heap.size :=
  held5_below (below_set' hq v) h hB hp0 hp1 hp2 hp3 hp4
theorem held6_below {w W w1 : World} {B N : Nat} {p0 p1 p2 p3 p4 p5 : Addr} {a0 a1 a2 a3 a4 a5 : Value} (hb : Below N W w1) (h : W.cell? p0 = some a0 ∧ W.cell? p1 = some a1 ∧ W.cell? p2 = some a2 ∧ W.cell? p3 = some a3 ∧ W.cell? p4 = some a4 ∧ W.cell? p5 = some a5 ∧ Below B w W ∧ N ≤ W.heap.size) (hB : B ≤ N) (hp0 : p0.block < N) (hp1 : p1.block < N) (hp2 : p2.block < N) (hp3 : p3.block < N) (hp4 : p4.block < N) (hp5 : p5.block < N) : w1.cell? p0 = some a0 ∧ w1.cell? p1 = some a1 ∧ w1.cell? p2 = some a2 ∧ w1.cell? p3 = some a3 ∧ w1.cell? p4 = some a4 ∧ w1.cell? p5 = some a5 ∧ Below B w w1 ∧ N ≤ w1.heap.size :=
  ⟨(hb.cell hp0).trans h.1, (hb.cell hp1).trans h.2.1, (hb.cell hp2).trans h.2.2.1, (hb.cell hp3).trans h.2.2.2.1, (hb.cell hp4).trans h.2.2.2.2.1, (hb.cell hp5).trans h.2.2.2.2.2.1, held0_below hb h.2.2.2.2.2.2 hB⟩
theorem held6_drew {w W : World} {B N : Nat} {p0 p1 p2 p3 p4 p5 : Addr} {a0 a1 a2 a3 a4 a5 : Value} (h : W.cell? p0 = some a0 ∧ W.cell? p1 = some a1 ∧ W.cell? p2 = some a2 ∧ W.cell? p3 = some a3 ∧ W.cell? p4 = some a4 ∧ W.cell? p5 = some a5 ∧ Below B w W ∧ N ≤ W.heap.size) : W.drew.cell? p0 = some a0 ∧ W.drew.cell? p1 = some a1 ∧ W.drew.cell? p2 = some a2 ∧ W.drew.cell? p3 = some a3 ∧ W.drew.cell? p4 = some a4 ∧ W.drew.cell? p5 = some a5 ∧ Below B w W.drew ∧ N ≤ W.drew.heap.size :=
  ⟨h.1, h.2.1, h.2.2.1, h.2.2.2.1, h.2.2.2.2.1, h.2.2.2.2.2.1, h.2.2.2.2.2.2.1.drew, h.2.2.2.2.2.2.2⟩
theorem held6_call {w W w1 : World} {B N : Nat} {p0 p1 p2 p3 p4 p5 : Addr} {a0 a1 a2 a3 a4 a5 : Value} (hb : Below W.heap.size W w1) (h : W.cell? p0 = some a0 ∧ W.cell? p1 = some a1 ∧ W.cell? p2 = some a2 ∧ W.cell? p3 = some a3 ∧ W.cell? p4 = some a4 ∧ W.cell? p5 = some a5 ∧ Below B w W ∧ N ≤ W.heap.size) (hB : B ≤ N) (hp0 : p0.block < N) (hp1 : p1.block < N) (hp2 : p2.block < N) (hp3 : p3.block < N) (hp4 : p4.block < N) (hp5 : p5.block < N) : w1.cell? p0 = some a0 ∧ w1.cell? p1 = some a1 ∧ w1.cell? p2 = some a2 ∧ w1.cell? p3 = some a3 ∧ w1.cell? p4 = some a4 ∧ w1.cell? p5 = some a5 ∧ Below B w w1 ∧ N ≤ w1.heap.size :=
  held6_below (below_call' hb h.2.2.2.2.2.2.2) h hB hp0 hp1 hp2 hp3 hp4 hp5
theorem held6_alloc {w W : World} {B N : Nat} {o : Obj} {p0 p1 p2 p3 p4 p5 : Addr} {a0 a1 a2 a3 a4 a5 : Value} (h : W.cell? p0 = some a0 ∧ W.cell? p1 = some a1 ∧ W.cell? p2 = some a2 ∧ W.cell? p3 = some a3 ∧ W.cell? p4 = some a4 ∧ W.cell? p5 = some a5 ∧ Below B w W ∧ N ≤ W.heap.size) (hB : B ≤ N) (hp0 : p0.block < N) (hp1 : p1.block < N) (hp2 : p2.block < N) (hp3 : p3.block < N) (hp4 : p4.block < N) (hp5 : p5.block < N) : (W.alloc o).cell? p0 = some a0 ∧ (W.alloc o).cell? p1 = some a1 ∧ (W.alloc o).cell? p2 = some a2 ∧ (W.alloc o).cell? p3 = some a3 ∧ (W.alloc o).cell? p4 = some a4 ∧ (W.alloc o).cell? p5 = some a5 ∧ Below B w (W.alloc o) ∧ N ≤ (W.alloc o).heap.size :=
  held6_below (below_alloc' h.2.2.2.2.2.2.2 o) h hB hp0 hp1 hp2 hp3 hp4 hp5
theorem held6_set {w W : World} {B N : Nat} {q : Addr} {v : Value} {p0 p1 p2 p3 p4 p5 : Addr} {a0 a1 a2 a3 a4 a5 : Value} (h : W.cell? p0 = some a0 ∧ W.cell? p1 = some a1 ∧ W.cell? p2 = some a2 ∧ W.cell? p3 = some a3 ∧ W.cell? p4 = some a4 ∧ W.cell? p5 = some a5 ∧ Below B w W ∧ N ≤ W.heap.size) (hB : B ≤ N) (hp0 : p0.block < N) (hp1 : p1.block < N) (hp2 : p2.block < N) (hp3 : p3.block < N) (hp4 : p4.block < N) (hp5 : p5.block < N) (hq : N ≤ q.block) : (W.setCell q v).cell? p0 = some a0 ∧ (W.setCell q v).cell? p1 = some a1 ∧ (W.setCell q v).cell? p2 = some a2 ∧ (W.setCell q v).cell? p3 = some a3 ∧ (W.setCell q v).cell? p4 = some a4 ∧ (W.setCell q v).cell? p5 = some a5 ∧ Below B w (W.setCell q v) ∧ N ≤ (W.setCell q v).heap.size :=
  held6_below (below_set' hq v) h hB hp0 hp1 hp2 hp3 hp4 hp5
theorem held7_below {w W w1 : World} {B N : Nat} {p0 p1 p2 p3 p4 p5 p6 : Addr} {a0 a1 a2 a3 a4 a5 a6 : Value} (hb : Below N W w1) (h : W.cell? p0 = some a0 ∧ W.cell? p1 = some a1 ∧ W.cell? p2 = some a2 ∧ W.cell? p3 = some a3 ∧ W.cell? p4 = some a4 ∧ W.cell? p5 = some a5 ∧ W.cell? p6 = some a6 ∧ Below B w W ∧ N ≤ W.heap.size) (hB : B ≤ N) (hp0 : p0.block < N) (hp1 : p1.block < N) (hp2 : p2.block < N) (hp3 : p3.block < N) (hp4 : p4.block < N) (hp5 : p5.block < N) (hp6 : p6.block < N) : w1.cell? p0 = some a0 ∧ w1.cell? p1 = some a1 ∧ w1.cell? p2 = some a2 ∧ w1.cell? p3 = some a3 ∧ w1.cell? p4 = some a4 ∧ w1.cell? p5 = some a5 ∧ w1.cell? p6 = some a6 ∧ Below B w w1 ∧ N ≤ w1.heap.size :=
  ⟨(hb.cell hp0).trans h.1, (hb.cell hp1).trans h.2.1, (hb.cell hp2).trans h.2.2.1, (hb.cell hp3).trans h.2.2.2.1, (hb.cell hp4).trans h.2.2.2.2.1, (hb.cell hp5).trans h.2.2.2.2.2.1, (hb.cell hp6).trans h.2.2.2.2.2.2.1, held0_below hb h.2.2.2.2.2.2.2 hB⟩
theorem held7_drew {w W : World} {B N : Nat} {p0 p1 p2 p3 p4 p5 p6 : Addr} {a0 a1 a2 a3 a4 a5 a6 : Value} (h : W.cell? p0 = some a0 ∧ W.cell? p1 = some a1 ∧ W.cell? p2 = some a2 ∧ W.cell? p3 = some a3 ∧ W.cell? p4 = some a4 ∧ W.cell? p5 = some a5 ∧ W.cell? p6 = some a6 ∧ Below B w W ∧ N ≤ W.heap.size) : W.drew.cell? p0 = some a0 ∧ W.drew.cell? p1 = some a1 ∧ W.drew.cell? p2 = some a2 ∧ W.drew.cell? p3 = some a3 ∧ W.drew.cell? p4 = some a4 ∧ W.drew.cell? p5 = some a5 ∧ W.drew.cell? p6 = some a6 ∧ Below B w W.drew ∧ N ≤ W.drew.heap.size :=
  ⟨h.1, h.2.1, h.2.2.1, h.2.2.2.1, h.2.2.2.2.1, h.2.2.2.2.2.1, h.2.2.2.2.2.2.1, h.2.2.2.2.2.2.2.1.drew, h.2.2.2.2.2.2.2.2⟩
theorem held7_call {w W w1 : World} {B N : Nat} {p0 p1 p2 p3 p4 p5 p6 : Addr} {a0 a1 a2 a3 a4 a5 a6 : Value} (hb : Below W.heap.size W w1) (h : W.cell? p0 = some a0 ∧ W.cell? p1 = some a1 ∧ W.cell? p2 = some a2 ∧ W.cell? p3 = some a3 ∧ W.cell? p4 = some a4 ∧ W.cell? p5 = some a5 ∧ W.cell? p6 = some a6 ∧ Below B w W ∧ N ≤ W.heap.size) (hB : B ≤ N) (hp0 : p0.block < N) (hp1 : p1.block < N) (hp2 : p2.block < N) (hp3 : p3.block < N) (hp4 : p4.block < N) (hp5 : p5.block < N) (hp6 : p6.block < N) : w1.cell? p0 = some a0 ∧ w1.cell? p1 = some a1 ∧ w1.cell? p2 = some a2 ∧ w1.cell? p3 = some a3 ∧ w1.cell? p4 = some a4 ∧ w1.cell? p5 = some a5 ∧ w1.cell? p6 = some a6 ∧ Below B w w1 ∧ N ≤ w1.heap.size :=
  held7_below (below_call' hb h.2.2.2.2.2.2.2.2) h hB hp0 hp1 hp2 hp3 hp4 hp5 hp6
theorem held7_alloc {w W : World} {B N : Nat} {o : Obj} {p0 p1 p2 p3 p4 p5 p6 : Addr} {a0 a1 a2 a3 a4 a5 a6 : Value} (h : W.cell? p0 = some a0 ∧ W.cell? p1 = some a1 ∧ W.cell? p2 = some a2 ∧ W.cell? p3 = some a3 ∧ W.cell? p4 = some a4 ∧ W.cell? p5 = some a5 ∧ W.cell? p6 = some a6 ∧ Below B w W ∧ N ≤ W.heap.size) (hB : B ≤ N) (hp0 : p0.block < N) (hp1 : p1.block < N) (hp2 : p2.block < N) (hp3 : p3.block < N) (hp4 : p4.block < N) (hp5 : p5.block < N) (hp6 : p6.block < N) : (W.alloc o).cell? p0 = some a0 ∧ (W.alloc o).cell? p1 = some a1 ∧ (W.alloc o).cell? p2 = some a2 ∧ (W.alloc o).cell? p3 = some a3 ∧ (W.alloc o).cell? p4 = some a4 ∧ (W.alloc o).cell? p5 = some a5 ∧ (W.alloc o).cell? p6 = some a6 ∧ Below B w (W.alloc o) ∧ N ≤ (W.alloc o).heap.size :=
  held7_below (below_alloc' h.2.2.2.2.2.2.2.2 o) h hB hp0 hp1 hp2 hp3 hp4 hp5 hp6
theorem held7_set {w W : World} {B N : Nat} {q : Addr} {v : Value} {p0 p1 p2 p3 p4 p5 p6 : Addr} {a0 a1 a2 a3 a4 a5 a6 : Value} (h : W.cell? p0 = some a0 ∧ W.cell? p1 = some a1 ∧ W.cell? p2 = some a2 ∧ W.cell? p3 = some a3 ∧ W.cell? p4 = some a4 ∧ W.cell? p5 = some a5 ∧ W.cell? p6 = some a6 ∧ Below B w W ∧ N ≤ W.heap.size) (hB : B ≤ N) (hp0 : p0.block < N) (hp1 : p1.block < N) (hp2 : p2.block < N) (hp3 : p3.block < N) (hp4 : p4.block < N) (hp5 : p5.block < N) (hp6 : p6.block < N) (hq : N ≤ q.block) : (W.setCell q v).cell? p0 = some a0 ∧ (W.setCell q v).cell? p1 = some a1 ∧ (W.setCell q v).cell? p2 = some a2 ∧ (W.setCell q v).cell? p3 = some a3 ∧ (W.setCell q v).cell? p4 = some a4 ∧ (W.setCell q v).cell? p5 = some a5 ∧ (W.setCell q v).cell? p6 = some a6 ∧ Below B w (W.setCell q v) ∧ N ≤ (W.setCell q v).heap.size :=
  held7_below (below_set' hq v) h hB hp0 hp1 hp2 hp3 hp4 hp5 hp6
theorem held8_below {w W w1 : World} {B N : Nat} {p0 p1 p2 p3 p4 p5 p6 p7 : Addr} {a0 a1 a2 a3 a4 a5 a6 a7 : Value} (hb : Below N W w1) (h : W.cell? p0 = some a0 ∧ W.cell? p1 = some a1 ∧ W.cell? p2 = some a2 ∧ W.cell? p3 = some a3 ∧ W.cell? p4 = some a4 ∧ W.cell? p5 = some a5 ∧ W.cell? p6 = some a6 ∧ W.cell? p7 = some a7 ∧ Below B w W ∧ N ≤ W.heap.size) (hB : B ≤ N) (hp0 : p0.block < N) (hp1 : p1.block < N) (hp2 : p2.block < N) (hp3 : p3.block < N) (hp4 : p4.block < N) (hp5 : p5.block < N) (hp6 : p6.block < N) (hp7 : p7.block < N) : w1.cell? p0 = some a0 ∧ w1.cell? p1 = some a1 ∧ w1.cell? p2 = some a2 ∧ w1.cell? p3 = some a3 ∧ w1.cell? p4 = some a4 ∧ w1.cell? p5 = some a5 ∧ w1.cell? p6 = some a6 ∧ w1.cell? p7 = some a7 ∧ Below B w w1 ∧ N ≤ w1.heap.size :=
  ⟨(hb.cell hp0).trans h.1, (hb.cell hp1).trans h.2.1, (hb.cell hp2).trans h.2.2.1, (hb.cell hp3).trans h.2.2.2.1, (hb.cell hp4).trans h.2.2.2.2.1, (hb.cell hp5).trans h.2.2.2.2.2.1, (hb.cell hp6).trans h.2.2.2.2.2.2.1, (hb.cell hp7).trans h.2.2.2.2.2.2.2.1, held0_below hb h.2.2.2.2.2.2.2.2 hB⟩
theorem held8_drew {w W : World} {B N : Nat} {p0 p1 p2 p3 p4 p5 p6 p7 : Addr} {a0 a1 a2 a3 a4 a5 a6 a7 : Value} (h : W.cell? p0 = some a0 ∧ W.cell? p1 = some a1 ∧ W.cell? p2 = some a2 ∧ W.cell? p3 = some a3 ∧ W.cell? p4 = some a4 ∧ W.cell? p5 = some a5 ∧ W.cell? p6 = some a6 ∧ W.cell? p7 = some a7 ∧ Below B w W ∧ N ≤ W.heap.size) : W.drew.cell? p0 = some a0 ∧ W.drew.cell? p1 = some a1 ∧ W.drew.cell? p2 = some a2 ∧ W.drew.cell? p3 = some a3 ∧ W.drew.cell? p4 = some a4 ∧ W.drew.cell? p5 = some a5 ∧ W.drew.cell? p6 = some a6 ∧ W.drew.cell? p7 = some a7 ∧ Below B w W.drew ∧ N ≤ W.drew.heap.size :=
  ⟨h.1, h.2.1, h.2.2.1, h.2.2.2.1, h.2.2.2.2.1, h.2.2.2.2.2.1, h.2.2.2.2.2.2.1, h.2.2.2.2.2.2.2.1, h.2.2.2.2.2.2.2.2.1.drew, h.2.2.2.2.2.2.2.2.2⟩
theorem held8_call {w W w1 : World} {B N : Nat} {p0 p1 p2 p3 p4 p5 p6 p7 : Addr} {a0 a1 a2 a3 a4 a5 a6 a7 : Value} (hb : Below W.heap.size W w1) (h : W.cell? p0 = some a0 ∧ W.cell? p1 = some a1 ∧ W.cell? p2 = some a2 ∧ W.cell? p3 = some a3 ∧ W.cell? p4 = some a4 ∧ W.cell? p5 = some a5 ∧ W.cell? p6 = some a6 ∧ W.cell? p7 = some a7 ∧ Below B w W ∧ N ≤ W.heap.size) (hB : B ≤ N) (hp0 : p0.block < N) (hp1 : p1.block < N) (hp2 : p2.block < N) (hp3 : p3.block < N) (hp4 : p4.block < N) (hp5 : p5.block < N) (hp6 : p6.block < N) (hp7 : p7.block < N) : w1.cell? p0 = some a0 ∧ w1.cell? p1 = some a1 ∧ w1.cell? p2 = some a2 ∧ w1.cell? p3 = some a3 ∧ w1.cell? p4 = some a4 ∧ w1.cell? p5 = some a5 ∧ w1.cell? p6 = some a6 ∧ w1.cell? p7 = some a7 ∧ Below B w w1 ∧ N ≤ w1.heap.size :=
  held8_below (below_call' hb h.2.2.2.2.2.2.2.2.2) h hB hp0 hp1 hp2 hp3 hp4 hp5 hp6 hp7
theorem held8_alloc {w W : World} {B N : Nat} {o : Obj} {p0 p1 p2 p3 p4 p5 p6 p7 : Addr} {a0 a1 a2 a3 a4 a5 a6 a7 : Value} (h : W.cell? p0 = some a0 ∧ W.cell? p1 = some a1 ∧ W.cell? p2 = some a2 ∧ W.cell? p3 = some a3 ∧ W.cell? p4 = some a4 ∧ W.cell? p5 = some a5 ∧ W.cell? p6 = some a6 ∧ W.cell? p7 = some a7 ∧ Below B w W ∧ N ≤ W.heap.size) (hB : B ≤ N) (hp0 : p0.block < N) (hp1 : p1.block < N) (hp2 : p2.block < N) (hp3 : p3.block < N) (hp4 : p4.block < N) (hp5 : p5.block < N) (hp6 : p6.block < N) (hp7 : p7.block < N) : (W.alloc o).cell? p0 = some a0 ∧ (W.alloc o).cell? p1 = some a1 ∧ (W.alloc o).cell? p2 = some a2 ∧ (W.alloc o).cell? p3 = some a3 ∧ (W.alloc o).cell? p4 = some a4 ∧ (W.alloc o).cell? p5 = some a5 ∧ (W.alloc o).cell? p6 = some a6 ∧ (W.alloc o).cell? p7 = some a7 ∧ Below B w (W.alloc o) ∧ N ≤ (W.alloc o).heap.size :=
  held8_below (below_alloc' h.2.2.2.2.2.2.2.2.2 o) h hB hp0 hp1 hp2 hp3 hp4 hp5 hp6 hp7
theorem held8_set {w W : World} {B N : Nat} {q : Addr} {v : Value} {p0 p1 p2 p3 p4 p5 p6 p7 : Addr} {a0 a1 a2 a3 a4 a5 a6 a7 : Value} (h : W.cell? p0 = some a0 ∧ W.cell? p1 = some a1 ∧ W.cell? p2 = some a2 ∧ W.cell? p3 = some a3 ∧ W.cell? p4 = some a4 ∧ W.cell? p5 = some a5 ∧ W.cell? p6 = some a6 ∧ W.cell? p7 = some a7 ∧ Below B w W ∧ N ≤ W.heap.size) (hB : B ≤ N) (hp0 : p0.block < N) (hp1 : p1.block < N) (hp2 : p2.block < N) (hp3 : p3.block < N) (hp4 : p4.block < N) (hp5 : p5.block < N) (hp6 : p6.block < N) (hp7 : p7.block < N) (hq : N ≤ q.block) : (W.setCell q v).cell? p0 = some a0 ∧ (W.setCell q v).cell? p1 = some a1 ∧ (W.setCell q v).cell? p2 = some a2 ∧ (W.setCell q v).cell? p3 = some a3 ∧ (W.setCell q v).cell? p4 = some a4 ∧ (W.setCell q v).cell? p5 = some a5 ∧ (W.setCell q v).cell? p6 = some a6 ∧ (W.setCell q v).cell? p7 = some a7 ∧ Below B w (W.setCell q v) ∧ N ≤ (W.setCell q v).heap.size :=
  held8_below (below_set' hq v) h hB hp0 hp1 hp2 hp3 hp4 hp5 hp6 hp7
theorem held9_below {w W w1 : World} {B N : Nat} {p0 p1 p2 p3 p4 p5 p6 p7 p8 : Addr} {a0 a1 a2 a3 a4 a5 a6 a7 a8 : Value} (hb : Below N W w1) (h : W.cell? p0 = some a0 ∧ W.cell? p1 = some a1 ∧ W.cell? p2 = some a2 ∧ W.cell? p3 = some a3 ∧ W.cell? p4 = some a4 ∧ W.cell? p5 = some a5 ∧ W.cell? p6 = some a6 ∧ W.cell? p7 = some a7 ∧ W.cell? p8 = some a8 ∧ Below B w W ∧ N ≤ W.heap.size) (hB : B ≤ N) (hp0 : p0.block < N) (hp1 : p1.block < N) (hp2 : p2.block < N) (hp3 : p3.block < N) (hp4 : p4.block < N) (hp5 : p5.block < N) (hp6 : p6.block < N) (hp7 : p7.block < N) (hp8 : p8.block < N) : w1.cell? p0 = some a0 ∧ w1.cell? p1 = some a1 ∧ w1.cell? p2 = some a2 ∧ w1.cell? p3 = some a3 ∧ w1.cell? p4 = some a4 ∧ w1.cell? p5 = some a5 ∧ w1.cell? p6 = some a6 ∧ w1.cell? p7 = some a7 ∧ w1.cell? p8 = some a8 ∧ Below B w w1 ∧ N ≤ w1.heap.size :=
  ⟨(hb.cell hp0).trans h.1, (hb.cell hp1).trans h.2.1, (hb.cell hp2).trans h.2.2.1, (hb.cell hp3).trans h.2.2.2.1, (hb.cell hp4).trans h.2.2.2.2.1, (hb.cell hp5).trans h.2.2.2.2.2.1, (hb.cell hp6).trans h.2.2.2.2.2.2.1, (hb.cell hp7).trans h.2.2.2.2.2.2.2.1, (hb.cell hp8).trans h.2.2.2.2.2.2.2.2.1, held0_below hb h.2.2.2.2.2.2.2.2.2 hB⟩
theorem held9_drew {w W : World} {B N : Nat} {p0 p1 p2 p3 p4 p5 p6 p7 p8 : Addr} {a0 a1 a2 a3 a4 a5 a6 a7 a8 : Value} (h : W.cell? p0 = some a0 ∧ W.cell? p1 = some a1 ∧ W.cell? p2 = some a2 ∧ W.cell? p3 = some a3 ∧ W.cell? p4 = some a4 ∧ W.cell? p5 = some a5 ∧ W.cell? p6 = some a6 ∧ W.cell? p7 = some a7 ∧ W.cell? p8 = some a8 ∧ Below B w W ∧ N ≤ W.heap.size) : W.drew.cell? p0 = some a0 ∧ W.drew.cell? p1 = some a1 ∧ W.drew.cell? p2 = some a2 ∧ W.drew.cell? p3 = some a3 ∧ W.drew.cell? p4 = some a4 ∧ W.drew.cell? p5 = some a5 ∧ W.drew.cell? p6 = some a6 ∧ W.drew.cell? p7 = some a7 ∧ W.drew.cell? p8 = some a8 ∧ Below B w W.drew ∧ N ≤ W.drew.heap.size :=
  ⟨h.1, h.2.1, h.2.2.1, h.2.2.2.1, h.2.2.2.2.1, h.2.2.2.2.2.1, h.2.2.2.2.2.2.1, h.2.2.2.2.2.2.2.1, h.2.2.2.2.2.2.2.2.1, h.2.2.2.2.2.2.2.2.2.1.drew, h.2.2.2.2.2.2.2.2.2.2⟩
theorem held9_call {w W w1 : World} {B N : Nat} {p0 p1 p2 p3 p4 p5 p6 p7 p8 : Addr} {a0 a1 a2 a3 a4 a5 a6 a7 a8 : Value} (hb : Below W.heap.size W w1) (h : W.cell? p0 = some a0 ∧ W.cell? p1 = some a1 ∧ W.cell? p2 = some a2 ∧ W.cell? p3 = some a3 ∧ W.cell? p4 = some a4 ∧ W.cell? p5 = some a5 ∧ W.cell? p6 = some a6 ∧ W.cell? p7 = some a7 ∧ W.cell? p8 = some a8 ∧ Below B w W ∧ N ≤ W.heap.size) (hB : B ≤ N) (hp0 : p0.block < N) (hp1 : p1.block < N) (hp2 : p2.block < N) (hp3 : p3.block < N) (hp4 : p4.block < N) (hp5 : p5.block < N) (hp6 : p6.block < N) (hp7 : p7.block < N) (hp8 : p8.block < N) : w1.cell? p0 = some a0 ∧ w1.cell? p1 = some a1 ∧ w1.cell? p2 = some a2 ∧ w1.cell? p3 = some a3 ∧ w1.cell? p4 = some a4 ∧ w1.cell? p5 = some a5 ∧ w1.cell? p6 = some a6 ∧ w1.cell? p7 = some a7 ∧ w1.cell? p8 = some a8 ∧ Below B w w1 ∧ N ≤ w1.heap.size :=
  held9_below (below_call' hb h.2.2.2.2.2.2.2.2.2.2) h hB hp0 hp1 hp2 hp3 hp4 hp5 hp6 hp7 hp8
theorem held9_alloc {w W : World} {B N : Nat} {o : Obj} {p0 p1 p2 p3 p4 p5 p6 p7 p8 : Addr} {a0 a1 a2 a3 a4 a5 a6 a7 a8 : Value} (h : W.cell? p0 = some a0 ∧ W.cell? p1 = some a1 ∧ W.cell? p2 = some a2 ∧ W.cell? p3 = some a3 ∧ W.cell? p4 = some a4 ∧ W.cell? p5 = some a5 ∧ W.cell? p6 = some a6 ∧ W.cell? p7 = some a7 ∧ W.cell? p8 = some a8 ∧ Below B w W ∧ N ≤ W.heap.size) (hB : B ≤ N) (hp0 : p0.block < N) (hp1 : p1.block < N) (hp2 : p2.block < N) (hp3 : p3.block < N) (hp4 : p4.block < N) (hp5 : p5.block < N) (hp6 : p6.block < N) (hp7 : p7.block < N) (hp8 : p8.block < N) : (W.alloc o).cell? p0 = some a0 ∧ (W.alloc o).cell? p1 = some a1 ∧ (W.alloc o).cell? p2 = some a2 ∧ (W.alloc o).cell? p3 = some a3 ∧ (W.alloc o).cell? p4 = some a4 ∧ (W.alloc o).cell? p5 = some a5 ∧ (W.alloc o).cell? p6 = some a6 ∧ (W.alloc o).cell? p7 = some a7 ∧ (W.alloc o).cell? p8 = some a8 ∧ Below B w (W.alloc o) ∧ N ≤ (W.alloc o).heap.size :=
  held9_below (below_alloc' h.2.2.2.2.2.2.2.2.2.2 o) h hB hp0 hp1 hp2 hp3 hp4 hp5 hp6 hp7 hp8
theorem held9_set {w W : World} {B N : Nat} {q : Addr} {v : Value} {p0 p1 p2 p3 p4 p5 p6 p7 p8 : Addr} {a0 a1 a2 a3 a4 a5 a6 a7 a8 : Value} (h : W.cell? p0 = some a0 ∧ W.cell? p1 = some a1 ∧ W.cell? p2 = some a2 ∧ W.cell? p3 = some a3 ∧ W.cell? p4 = some a4 ∧ W.cell? p5 = some a5 ∧ W.cell? p6 = some a6 ∧ W.cell? p7 = some a7 ∧ W.cell? p8 = some a8 ∧ Below B w W ∧ N ≤ W.heap.size) (hB : B ≤ N) (hp0 : p0.block < N) (hp1 : p1.block < N) (hp2 : p2.block < N) (hp3 : p3.block < N) (hp4 : p4.block < N) (hp5 : p5.block < N) (hp6 : p6.block < N) (hp7 : p7.block < N) (hp8 : p8.block < N) (hq : N ≤ q.block) : (W.setCell q v).cell? p0 = some a0 ∧ (W.setCell q v).cell? p1 = some a1 ∧ (W.setCell q v).cell? p2 = some a2 ∧ (W.setCell q v).cell? p3 = some a3 ∧ (W.setCell q v).cell? p4 = some a4 ∧ (W.setCell q v).cell? p5 = some a5 ∧ (W.setCell q v).cell? p6 = some a6 ∧ (W.setCell q v).cell? p7 = some a7 ∧ (W.setCell q v).cell? p8 = some a8 ∧ Below B w (W.setCell q v) ∧ N ≤ (W.setCell q v).heap.size :=
  held9_below (below_set' hq v) h hB hp0 hp1 hp2 hp3 hp4 hp5 hp6 hp7 hp8
theorem held10_below {w W w1 : World} {B N : Nat} {p0 p1 p2 p3 p4 p5 p6 p7 p8 p9 : Addr} {a0 a1 a2 a3 a4 a5 a6 a7 a8 a9 : Value} (hb : Below N W w1) (h : W.cell? p0 = some a0 ∧ W.cell? p1 = some a1 ∧ W.cell? p2 = some a2 ∧ W.cell? p3 = some a3 ∧ W.cell? p4 = some a4 ∧ W.cell? p5 = some a5 ∧ W.cell? p6 = some a6 ∧ W.cell? p7 = some a7 ∧ W.cell? p8 = some a8 ∧ W.cell? p9 = some a9 ∧ Below B w W ∧ N ≤ W.heap.size) (hB : B ≤ N) (hp0 : p0.block < N) (hp1 : p1.block < N) (hp2 : p2.block < N) (hp3 : p3.block < N) (hp4 : p4.block < N) (hp5 : p5.block < N) (hp6 : p6.block < N) (hp7 : p7.block < N) (hp8 : p8.block < N) (hp9 : p9.block < N) : w1.cell? p0 = some a0 ∧ w1.cell? p1 = some a1 ∧ w1.cell? p2 = some a2 ∧ w1.cell? p3 = some a3 ∧ w1.cell? p4 = some a4 ∧ w1.cell? p5 = some a5 ∧ w1.cell? p6 = some a6 ∧ w1.cell? p7 = some a7 ∧ w1.cell? p8 = some a8 ∧ w1.cell? p9 = some a9 ∧ Below B w w1 ∧ N ≤ w1.heap.size :=
  ⟨(hb.cell hp0).trans h.1, (hb.cell hp1).trans h.2.1, (hb.cell hp2).trans h.2.2.1, (hb.cell hp3).trans h.2.2.2.1, (hb.cell hp4).trans h.2.2.2.2.1, (hb.cell hp5).trans h.2.2.2.2.2.1, (hb.cell hp6).trans h.2.2.2.2.2.2.1, (hb.cell hp7).trans h.2.2.2.2.2.2.2.1, (hb.cell hp8).trans h.2.2.2.2.2.2.2.2.1, (hb.cell hp9).trans h.2.2.2.2.2.2.2.2.2.1, held0_below hb h.2.2.2.2.2.2.2.2.2.2 hB⟩
theorem held10_drew {w W : World} {B N : Nat} {p0 p1 p2 p3 p4 p5 p6 p7 p8 p9 : Addr} {a0 a1 a2 a3 a4 a5 a6 a7 a8 a9 : Value} (h : W.cell? p0 = some a0 ∧ W.cell? p1 = some a1 ∧ W.cell? p2 = some a2 ∧ W.cell? p3 = some a3 ∧ W.cell? p4 = some a4 ∧ W.cell? p5 = some a5 ∧ W.cell? p6 = some a6 ∧ W.cell? p7 = some a7 ∧ W.cell? p8 = some a8 ∧ W.cell? p9 = some a9 ∧ Below B w W ∧ N ≤ W.heap.size) : W.drew.cell? p0 = some a0 ∧ W.drew.cell? p1 = some a1 ∧ W.drew.cell? p2 = some a2 ∧ W.drew.cell? p3 = some a3 ∧ W.drew.cell? p4 = some a4 ∧ W.drew.cell? p5 = some a5 ∧ W.drew.cell? p6 = some a6 ∧ W.drew.cell? p7 = some a7 ∧ W.drew.cell? p8 = some a8 ∧ W.drew.cell? p9 = some a9 ∧ Below B w W.drew ∧ N ≤ W.drew.heap.size :=
  ⟨h.1, h.2.1, h.2.2.1, h.2.2.2.1, h.2.2.2.2.1, h.2.2.2.2.2.1, h.2.2.2.2.2.2.1, h.2.2.2.2.2.2.2.1, h.2.2.2.2.2.2.2.2.1, h.2.2.2.2.2.2.2.2.2.1, h.2.2.2.2.2.2.2.2.2.2.1.drew, h.2.2.2.2.2.2.2.2.2.2.2⟩
theorem held10_call {w W w1 : World} {B N : Nat} {p0 p1 p2 p3 p4 p5 p6 p7 p8 p9 : Addr} {a0 a1 a2 a3 a4 a5 a6 a7 a8 a9 : Value} (hb : Below W.heap.size W w1) (h : W.cell? p0 = some a0 ∧ W.cell? p1 = some a1 ∧ W.cell? p2 = some a2 ∧ W.cell? p3 = some a3 ∧ W.cell? p4 = some a4 ∧ W.cell? p5 = some a5 ∧ W.cell? p6 = some a6 ∧ W.cell? p7 = some a7 ∧ W.cell? p8 = some a8 ∧ W.cell? p9 = some a9 ∧ Below B w W ∧ N ≤ W.heap.size) (hB : B ≤ N) (hp0 : p0.block < N) (hp1 : p1.block < N) (hp2 : p2.block < N) (hp3 : p3.block < N) (hp4 : p4.block < N) (hp5 : p5.block < N) (hp6 : p6.block < N) (hp7 : p7.block < N) (hp8 : p8.block < N) (hp9 : p9.block < N) : w1.cell? p0 = some a0 ∧ w1.cell? p1 = some a1 ∧ w1.cell? p2 = some a2 ∧ w1.cell? p3 = some a3 ∧ w1.cell? p4 = some a4 ∧ w1.cell? p5 = some a5 ∧ w1.cell? p6 = some a6 ∧ w1.cell? p7 = some a7 ∧ w1.cell? p8 = some a8 ∧ w1.cell? p9 = some a9 ∧ Below B w w1 ∧ N ≤ w1.heap.size :=
  held10_below (below_call' hb h.2.2.2.2.2.2.2.2.2.2.2) h hB hp0 hp1 hp2 hp3 hp4 hp5 hp6 hp7 hp8 hp9
theorem held10_alloc {w W : World} {B N : Nat} {o : Obj} {p0 p1 p2 p3 p4 p5 p6 p7 p8 p9 : Addr} {a0 a1 a2 a3 a4 a5 a6 a7 a8 a9 : Value} (h : W.cell? p0 = some a0 ∧ W.cell? p1 = some a1 ∧ W.cell? p2 = some a2 ∧ W.cell? p3 = some a3 ∧ W.cell? p4 = some a4 ∧ W.cell? p5 = some a5 ∧ W.cell? p6 = some a6 ∧ W.cell? p7 = some a7 ∧ W.cell? p8 = some a8 ∧ W.cell? p9 = some a9 ∧ Below B w W ∧ N ≤ W.heap.size) (hB : B ≤ N) (hp0 : p0.block < N) (hp1 : p1.block < N) (hp2 : p2.block < N) (hp3 : p3.block < N) (hp4 : p4.block < N) (hp5 : p5.block < N) (hp6 : p6.block < N) (hp7 : p7.block < N) (hp8 : p8.block < N) (hp9 : p9.block < N) : (W.alloc o).cell? p0 = some a0 ∧ (W.alloc o).cell? p1 = some a1 ∧ (W.alloc o).cell? p2 = some a2 ∧ (W.alloc o).cell? p3 = some a3 ∧ (W.alloc o).cell? p4 = some a4 ∧ (W.alloc o).cell? p5 = some a5 ∧ (W.alloc o).cell? p6 = some a6 ∧ (W.alloc o).cell? p7 = some a7 ∧ (W.alloc o).cell? p8 = some a8 ∧ (W.alloc o).cell? p9 = some a9 ∧ Below B w (W.alloc o) ∧ N ≤ (W.alloc o).heap.size :=
  held10_below (below_alloc' h.2.2.2.2.2.2.2.2.2.2.2 o) h hB hp0 hp1 hp2 hp3 hp4 hp5 hp6 hp7 hp8 hp9
theorem held10_set {w W : World} {B N : Nat} {q : Addr} {v : Value} {p0 p1 p2 p3 p4 p5 p6 p7 p8 p9 : Addr} {a0 a1 a2 a3 a4 a5 a6 a7 a8 a9 : Value} (h : W.cell? p0 = some a0 ∧ W.cell? p1 = some a1 ∧ W.cell? p2 = some a2 ∧ W.cell? p3 = some a3 ∧ W.cell? p4 = some a4 ∧ W.cell? p5 = some a5 ∧ W.cell? p6 = some a6 ∧ W.cell? p7 = some a7 ∧ W.cell? p8 = some a8 ∧ W.cell? p9 = some a9 ∧ Below B w W ∧ N ≤ W.heap.size) (hB : B ≤ N) (hp0 : p0.block < N) (hp1 : p1.block < N) (hp2 : p2.block < N) (hp3 : p3.block < N) (hp4 : p4.block < N) (hp5 : p5.block < N) (hp6 : p6.block < N) (hp7 : p7.block < N) (hp8 : p8.block < N) (hp9 : p9.block < N) (hq : N ≤ q.block) : (W.setCell q v).cell? p0 = some a0 ∧ (W.setCell q v).cell? p1 = some a1 ∧ (W.setCell q v).cell? p2 = some a2 ∧ (W.setCell q v).cell? p3 = some a3 ∧ (W.setCell q v).cell? p4 = some a4 ∧ (W.setCell q v).cell? p5 = some a5 ∧ (W.setCell q v).cell? p6 = some a6 ∧ (W.setCell q v).cell? p7 = some a7 ∧ (W.setCell q v).cell? p8 = some a8 ∧ (W.setCell q v).cell? p9 = some a9 ∧ Below B w (W.setCell q v) ∧ N ≤ (W.setCell q v).heap.size :=
  held10_below (below_set' hq v) h hB hp0 hp1 hp2 hp3 hp4 hp5 hp6 hp7 hp8 hp9
end

/- Box:
  A local ID in a block of its own; carried over new blocks, draws and calls.
-/
section
set_option linter.unusedVariables false
set_option linter.unusedSimpArgs false
set_option linter.unnecessarySimpa false
open Go.RowKit

/-- block g holds the ID (s, n) -/
structure Bx (w : World) (g : Nat) (s n : Int) : Prop where
  c0 : w.cell? ⟨g, 0, none⟩ = some (.int .u64 s)
  c1 : w.cell? ⟨g, 1, none⟩ = some (.int .i64 n)
  f0 : w.frozen? ⟨g, 0, none⟩ = false
  f1 : w.frozen? ⟨g, 1, none⟩ = false
  lt : g < w.heap.size
theorem Bx.below {W w1 : World} {N g : Nat} {s n : Int} (h : Bx W g s n) (hb : Below N W w1) (hg : g < N) : Bx w1 g s n :=
  ⟨(hb.cell (p := ⟨g, 0, none⟩) hg).trans h.c0, (hb.cell (p := ⟨g, 1, none⟩) hg).trans h.c1, (hb.frozen (p := ⟨g, 0, none⟩) hg).trans h.f0, (hb.frozen (p := ⟨g, 1, none⟩) hg).trans h.f1, Nat.lt_of_lt_of_le h.lt hb.size⟩
theorem Bx.of {W w1 : World} {g : Nat} {s n : Int} (h : Bx W g s n) (hb : Below W.heap.size W w1) : Bx w1 g s n := h.below hb h.lt
theorem Bx.al {W : World} {g : Nat} {s n : Int} (h : Bx W g s n) (o : Obj) : Bx (W.alloc o) g s n := h.of ((Below.refl _ _).alloc (Nat.le_refl _) o)
theorem Bx.dr {W : World} {g : Nat} {s n : Int} (h : Bx W g s n) : Bx W.drew g s n := h.of (Below.refl _ _).drew
theorem Bx.drN {W : World} {g : Nat} {s n : Int} (h : Bx W g s n) (k : Nat) : Bx (W.drewN k) g s n := h.of (below_drewN (Below.refl _ _) k)
theorem Bx.new (w : World) (s n : Int) : Bx (w.alloc (.cells #[.int .u64 s, .int .i64 n] 53)) w.heap.size s n :=
  ⟨by go_simp, by go_simp, by go_simp, by go_simp, by simp⟩
theorem Bx.new' {w : World} {g : Nat} (s n : Int) (hg : g = w.heap.size) : Bx (w.alloc (.cells #[.int .u64 s, .int .i64 n] 53)) g s n := by subst hg; exact Bx.new w s n
theorem Bx.facts {w : World} {g : Nat} {s n : Int} (h : Bx w g s n) : w.cell? ⟨g, 0, none⟩ = some (.int .u64 s) ∧ w.cell? ⟨g, 1, none⟩ = some (.int .i64 n) ∧ g < w.heap.size ∧ g < w.heap.size + 1 ∧ g < w.heap.size + 1 + 1 :=
  ⟨h.c0, h.c1, h.lt, Nat.lt_succ_of_lt h.lt, Nat.lt_succ_of_lt (Nat.lt_succ_of_lt h.lt)⟩
/-- the frame -/
structure Fr (w W : World) : Prop where
  b : Below w.heap.size w W
theorem Fr.refl (w : World) : Fr w w := ⟨Below.refl _ _⟩
theorem Fr.of {w W w1 : World} (h : Fr w W) (hb : Below W.heap.size W w1) : Fr w w1 := ⟨below_then h.b hb⟩
theorem Fr.al {w W : World} (h : Fr w W) (o : Obj) : Fr w (W.alloc o) := ⟨h.b.alloc h.b.size o⟩
theorem Fr.dr {w W : World} (h : Fr w W) : Fr w W.drew := ⟨h.b.drew⟩
theorem Fr.drN {w W : World} (h : Fr w W) (k : Nat) : Fr w (W.drewN k) := ⟨below_drewN h.b k⟩
end

/- RegR:
  A region that draws its order: a CALL may be taken first, whoever else may come before it, if it returns the same value in every world that
  stands behind the one at hand by new blocks alone, and lays nothing but new blocks itself. So a region of calls, loads and allocs is walked once
  for each order of its ALLOCS, not for each order of calls and allocs. (The laws of Derived/OrdersHeld.lean have one condition on worlds for the
  whole region; here the condition is 'behind the world at hand', and grows with the walk.)
-/
section
set_option linter.unusedVariables false
set_option linter.unusedSimpArgs false
set_option linter.unnecessarySimpa false
open Go Go.RowKit

/-- w' stands behind w by new blocks and draws alone -/
def Grew (w w' : World) : Prop := Below w.heap.size w w'
theorem Grew.refl (w : World) : Grew w w := Below.refl _ _
theorem Grew.trans {a b c : World} (h : Grew a b) (k : Grew b c) : Grew a c := below_then h k

theorem grew_alloc (w : World) (o : Obj) : Grew w (w.alloc o) := (Below.refl _ _).alloc (Nat.le_refl _) o
theorem grew_drew (w : World) : Grew w w.drew := (Below.refl _ _).drew
theorem grew_eq {w w' : World} (h : w = w') : Grew w w' := h ▸ Grew.refl w
theorem grew_drawn {w w' : World} (h : Drawn w w') : Grew w w' := h.below _
theorem Bx.up {W w1 : World} {g : Nat} {s n : Int} (h : Bx W g s n) (hg : Grew W w1) : Bx w1 g s n := h.of hg
theorem Fr.up {w W w1 : World} (h : Fr w W) (hg : Grew W w1) : Fr w w1 := h.of hg
theorem Bx.stored {W : World} {g : Nat} {s n : Int} (h : Bx W g s n) (s' n' : Int) : Bx ((W.setCell ⟨g, 0, none⟩ (.int .u64 s')).setCell ⟨g, 1, none⟩ (.int .i64 n')) g s' n' := by
  obtain ⟨c0, c1, f0, f1, lt⟩ := h
  constructor <;> go_simp
theorem Bx.far {W : World} {g g' : Nat} {s n : Int} (h : Bx W g s n) (hne : g' ≠ g) (u v : Value) : Bx ((W.setCell ⟨g', 0, none⟩ u).setCell ⟨g', 1, none⟩ v) g s n := by
  have hb : Below (g + 1) W W := Below.refl _ _
  obtain ⟨c0, c1, f0, f1, lt⟩ := h
  refine ⟨?_, ?_, ?_, ?_, ?_⟩
  · rw [World.cell?_setCell_far _ _ _ _ hne, World.cell?_setCell_far _ _ _ _ hne]; exact c0
  · rw [World.cell?_setCell_far _ _ _ _ hne, World.cell?_setCell_far _ _ _ _ hne]; exact c1
  · go_simp
  · go_simp
  · simpa using lt
theorem Fr.stored {w W : World} {g : Nat} (h : Fr w W) (hg : w.heap.size ≤ g) (u v : Value) : Fr w ((W.setCell ⟨g, 0, none⟩ u).setCell ⟨g, 1, none⟩ v) := ⟨(h.b.setCell hg _).setCell hg _⟩
section
variable {P : Program} {ops : Array Oper} {Q : Exit → Act → World → Prop} {md : Region.Mode}

/-- is operation number i a store? -/
def isStore (ops : Array Oper) (i : Nat) : Bool := match ops[i]? with
  | some o => match o.op with | .store .. => true | _ => false
  | none => false

/-- in every world behind w, operation o yields v: at once, or by a call that lays new blocks alone -/
def YieldsG (P : Program) (ops : Array Oper) (o : Oper) (v : Value) (a : Act) (w : World) : Prop :=
  Region.wanted o (yielded ops a.tmps) = true ∧ ∀ w', Grew w w' →
    (execOp a.eval o).run P w' = .ok (.value v) w' ∨ ∃ f args, (execOp a.eval o).run P w' = .ok (.enter f args) w' ∧ Calls P f args w' (fun e w'' => e = .returned v ∧ Grew w' w'')

theorem YieldsG.up {o : Oper} {v : Value} {a : Act} {w w1 : World} (h : YieldsG P ops o v a w) (hg : Grew w w1) : YieldsG P ops o v a w1 :=
  ⟨h.1, fun w' hw => h.2 w' (hg.trans hw)⟩
theorem YieldsG.same {o : Oper} {v : Value} {a a' : Act} {w : World} (h : YieldsG P ops o v a w) (he : execOp a'.eval o = execOp a.eval o)
    (hw : Region.wanted o (yielded ops a'.tmps) = true) : YieldsG P ops o v a' w := ⟨hw, by rw [he]; exact h.2⟩

theorem YieldsG.step {i : Nat} {o : Oper} {v : Value} {a : Act} {w w' : World} (hi : ops[i]? = some o) (hy : YieldsG P ops o v a w) (hw : Grew w w')
    {K : Act → World → Prop} (h : ∀ w'', Grew w' w'' → K (a.put o.dst v) w'') : wpOp P ops Q i K a w' := by
  unfold wpOp
  simp only [hi, hy.1, if_true]
  refine .inl ?_
  unfold Oper.wp
  rcases hy.2 w' hw with he | ⟨f, args, he, hc⟩
  · rw [he]; exact h w' (Grew.refl _)
  · rw [he]
    simp only [Oper.upon]
    refine Calls.mono hc ?_
    rintro e w'' ⟨rfl, hg⟩
    exact h w'' hg

/-- what operation j does is the same whether i's value, which it does not look at, is there or not; and T, which j's value does not touch, stays -/
theorem wpOp_past {j : Nat} {oi oj : Oper} {v : Value} (hj : ops[j]? = some oj) (hap : oi.apart ops oj = true)
    (hsj : ∀ cs b, oj.op ≠ .select cs b) (hQ : ∀ c a w, Q (.panic c) (a.put oi.dst v) w → Q (.panic c) a w)
    {T : Act → Prop} (kT : ∀ a u, T a → T (a.put oj.dst u)) (kD : ∀ (a : Act) d, T a → T { a with defers := d :: a.defers })
    {K : Act → World → Prop} {a : Act} {w : World} (ht : T a) (h : wpOp P ops Q j K (a.put oi.dst v) w) :
    wpOp P ops Q j (fun a' w' => T a' ∧ K (a'.put oi.dst v) w') a w := by
  obtain ⟨h1, h2, h3⟩ := Oper.apart_spec hap
  unfold wpOp at *
  simp only [hj] at *
  rw [wanted_put oj a oi.dst v h1] at h
  by_cases hw : Region.wanted oj (yielded ops a.tmps) = true
  · simp only [hw, if_true] at h ⊢
    rcases h with h | ⟨ha, hl⟩
    · left
      unfold Oper.wp at *
      rw [execOp_put oj hsj a oi.dst v h1] at h
      revert h
      cases (execOp a.eval oj).run P w with
      | ok n w' =>
        cases n with
        | value u => exact fun h => ⟨kT a u ht, by rw [← Act.put_comm a v u h2]; exact h⟩
        | skip => exact fun h => ⟨kT a _ ht, by rw [← Act.put_comm a v undef h2]; exact h⟩
        | defer d =>
          intro h
          refine ⟨kT _ _ (kD a d ht), ?_⟩
          rw [← Act.put_comm _ v undef h2, ← Act.put_defers]
          exact h
        | enter f args =>
          intro h
          refine Calls.mono h fun e w'' he => ?_
          cases e with
          | returned u => exact ⟨kT a u ht, by rw [← Act.put_comm a v u h2]; exact he⟩
          | panicked c => exact hQ _ _ _ he
          | outgrown => exact he
        | row r args => exact fun h => Rows.mono h fun u w'' he => ⟨kT a u ht, by rw [← Act.put_comm a v u h2]; exact he⟩
        | _ => exact fun h => h
      | halt x w' =>
        cases x with
        | panic u => exact fun h => hQ _ _ _ h
        | _ => exact fun h => h
    · right
      refine ⟨?_, hl⟩
      unfold Oper.asks at *
      rw [execOp_put oj hsj a oi.dst v h1] at ha
      exact ha
  · simp only [hw] at h ⊢
    exact ⟨kT a _ ht, by rw [← Act.put_comm a v undef h2]; exact h⟩

/-- whatever order is picked from here on, in whatever world behind w -/
def wpAnyG (P : Program) (md : Region.Mode) (ops : Array Oper) (Q : Exit → Act → World → Prop) : Nat → Array Bool → Act → World → Prop
  | 0, listed, a, w => Region.ready md ops listed = [] ∧ ∀ w', Grew w w' → Q .normal a w'
  | fuel + 1, listed, a, w => ∀ w', Grew w w' →
    (Region.ready md ops listed = [] → Q .normal a w') ∧
    ∀ i ∈ Region.ready md ops listed, wpOp P ops Q i (fun a' w'' => (isStore ops i = true ∨ Grew w' w'') ∧ wpAnyG P md ops Q fuel (listed.setIfInBounds i true) a' w'') a w'

theorem wpAny_of_grew : ∀ (fuel : Nat) (listed : Array Bool) (a : Act) (w : World), wpAnyG P md ops Q fuel listed a w → wpAny P md ops Q fuel listed a w
  | 0, _, _, w, h => ⟨h.1, h.2 w (Grew.refl _)⟩
  | fuel + 1, _, _, w, h => ⟨(h w (Grew.refl _)).1, fun i hi => wpOp_mono (fun a' w' h' => wpAny_of_grew fuel _ a' w' h'.2) ((h w (Grew.refl _)).2 i hi)⟩

theorem wpAnyG_up {w w1 : World} (hg : Grew w w1) : ∀ {fuel : Nat} {listed : Array Bool} {a : Act}, wpAnyG P md ops Q fuel listed a w → wpAnyG P md ops Q fuel listed a w1
  | 0, _, _, h => ⟨h.1, fun w' hw => h.2 w' (hg.trans hw)⟩
  | _ + 1, _, _, h => fun w' hw => h w' (hg.trans hw)

/-- operation i may be taken first; bs: operations that wait for it -/
theorem wpAnyG_first {i : Nat} {oi : Oper} {v : Value} (bs : List Nat) (hi : ops[i]? = some oi) (hsel : ∀ (j : Nat) (o : Oper) cs b, ops[j]? = some o → o.op ≠ .select cs b)
    (hQ : ∀ c a w, Q (.panic c) (a.put oi.dst v) w → Q (.panic c) a w)
    (hbs : ∀ j ∈ bs, ∀ oj, ops[j]? = some oj → ∃ e ∈ oj.after, Region.binds md e = true ∧ (e.on = i ∨ e.on ∈ bs)) :
    ∀ (fuel : Nat) (listed : Array Bool) (a : Act) (w : World),
      (∀ k ∈ bs, listed.getD k false = false) →
      (∀ j oj, ops[j]? = some oj → j ≠ i → listed.getD j true = false → (∀ e ∈ oj.after, Region.binds md e = true → e.on ≠ i) → oi.apart ops oj = true) →
      (∀ j, j < ops.size → j ≠ i → listed.getD j true = false → j ∉ bs → isStore ops j = false) →
      i ∈ Region.ready md ops listed → YieldsG P ops oi v a w →
      wpAnyG P md ops Q fuel (listed.setIfInBounds i true) (a.put oi.dst v) w → wpAnyG P md ops Q (fuel + 1) listed a w := by
  intro fuel
  induction fuel with
  | zero =>
    intro listed a w _ _ _ hr hy H w' hw
    refine ⟨fun h => (by rw [h] at hr; cases hr), fun j hj => ?_⟩
    by_cases hji : j = i
    · subst hji; exact hy.step hi hw (fun w'' hg => ⟨.inr hg, wpAnyG_up (hw.trans hg) H⟩)
    · have := ready_mono hj hji
      rw [H.1] at this
      cases this
  | succ fuel ih =>
    intro listed a w hun hfree hstore hr hy H w' hw
    refine ⟨fun h => (by rw [h] at hr; cases hr), fun j hj => ?_⟩
    by_cases hji : j = i
    · subst hji; exact hy.step hi hw (fun w'' hg => ⟨.inr hg, wpAnyG_up (hw.trans hg) H⟩)
    · have h1 := (H w' hw).2 j (ready_mono hj hji)
      obtain ⟨hjun, oj, hoj, hall⟩ := mem_ready.1 hj
      have hnot : ∀ e ∈ oj.after, Region.binds md e = true → e.on ≠ i := fun e he hb heq => by
        have h1 := hall e he hb
        have h0 := (mem_ready.1 hr).1
        rw [heq] at h1
        rcases Nat.lt_or_ge i listed.size with h' | h'
        · simp [h'] at h0 h1; rw [h0] at h1; cases h1
        · simp [Array.getElem?_eq_none h'] at h1
      have hjb : j ∉ bs := fun hjb => by
        obtain ⟨e, he, hb, h | h⟩ := hbs j hjb oj hoj
        · exact hnot e he hb h
        · have h1 := hall e he hb
          rw [hun _ h] at h1; cases h1
      have hjs : j < ops.size := by
        rcases Nat.lt_or_ge j ops.size with h | h
        · exact h
        · rw [Array.getElem?_eq_none h] at hoj; cases hoj
      have hap := hfree j oj hoj hji hjun hnot
      have hns := hstore j hjs hji hjun hjb
      obtain ⟨a1, a2, a3⟩ := Oper.apart_spec hap
      have h2 := wpOp_past (T := fun b => Region.wanted oi (yielded ops b.tmps) = true ∧ execOp b.eval oi = execOp a.eval oi) hoj hap (fun cs b => hsel j oj cs b hoj) hQ
        (fun b u hb => ⟨by rw [wanted_put oi b oj.dst u a3]; exact hb.1, by rw [execOp_put oi (fun cs b => hsel i oi cs b hi) b oj.dst u a3]; exact hb.2⟩)
        (fun b d hb => hb) ⟨hy.1, rfl⟩ h1
      have hback : ∀ k, k ≠ i → (listed.setIfInBounds j true).getD k true = false → listed.getD k true = false := fun k hki hun => by
        by_cases hjk : j = k
        · subst hjk; exact hjun
        · rw [getD_set_ne true hjk] at hun; exact hun
      refine wpOp_mono (fun a' w'' h3 => ?_) h2
      have hg : Grew w' w'' := by
        rcases h3.2.1 with h | h
        · rw [hns] at h; cases h
        · exact h
      refine ⟨.inr hg, ih (listed.setIfInBounds j true) a' w'' (fun k hk => ?_) (fun k ok hk hki hun hno => hfree k ok hk hki (hback k hki hun) hno) (fun k hk hki hun hno => hstore k hk hki (hback k hki hun) hno)
        (ready_mono hr (Ne.symm hji)) ((hy.same h3.1.2 h3.1.1).up (hw.trans hg)) ?_⟩
      · rw [getD_set_ne false (fun h : j = k => hjb (by rw [h]; exact hk))]; exact hun k hk
      · rw [Array.setIfInBounds_comm _ _ hji]
        exact h3.2.2

/-- what waits for i, by one edge or by several -/
def waits (md : Region.Mode) (ops : Array Oper) (listed : Array Bool) (i : Nat) : Nat → List Nat → List Nat
  | 0, bs => bs
  | n + 1, bs => waits md ops listed i n ((List.range ops.size).filter fun j => !listed.getD j true && ((ops[j]?).map (fun o => o.after.any fun e => Region.binds md e && (e.on == i || bs.contains e.on))).getD false)
/-- the side conditions as a Bool -/
def freeG (md : Region.Mode) (ops : Array Oper) (listed : Array Bool) (i : Nat) (bs : List Nat) : Bool :=
  (bs.all fun k => !listed.getD k false && ((ops[k]?).map (fun o => o.after.any fun e => Region.binds md e && (e.on == i || bs.contains e.on))).getD true) &&
  (List.range ops.size).all fun j => j == i || listed.getD j true || bs.contains j || !isStore ops j

theorem wpAnyG_take {i : Nat} {oi : Oper} {v : Value} {fuel : Nat} {listed : Array Bool} {a : Act} {w : World} (hi : ops[i]? = some oi)
    (hs : Region.noSelect ops = true) (hf : Region.free md ops listed i = true) (hg : freeG md ops listed i (waits md ops listed i ops.size []) = true) (hr : (Region.ready md ops listed).contains i = true)
    (hQ : ∀ c a w, Q (.panic c) (a.put oi.dst v) w → Q (.panic c) a w) (hy : YieldsG P ops oi v a w)
    (h : wpAnyG P md ops Q fuel (listed.setIfInBounds i true) (a.put oi.dst v) w) : wpAnyG P md ops Q (fuel + 1) listed a w := by
  generalize waits md ops listed i ops.size [] = bs at hg
  unfold freeG at hg
  rw [Bool.and_eq_true, List.all_eq_true, List.all_eq_true] at hg
  obtain ⟨g1, g2⟩ := hg
  refine wpAnyG_first bs hi (Region.noSelect_spec hs) hQ (fun j hj oj hoj => ?_) fuel listed a w (fun k hk => ?_) (Region.free_spec hi hf) (fun j hjs hji hun hno => ?_) (by simpa using hr) hy h
  · have := g1 j hj
    rw [hoj] at this
    simp only [Option.map_some, Option.getD_some, Bool.and_eq_true, Array.any_eq_true, Bool.or_eq_true, beq_iff_eq, List.contains_iff_mem] at this
    obtain ⟨_, k, hk, hb, he⟩ := this
    exact ⟨_, Array.getElem_mem hk, hb, he⟩
  · have := g1 k hk
    simp only [Bool.and_eq_true, Bool.not_eq_true'] at this
    exact this.1
  · have := g2 j (List.mem_range.2 hjs)
    rw [hun] at this
    simp only [Bool.or_eq_true, beq_iff_eq, Bool.false_eq_true, or_false, List.contains_iff_mem, Bool.not_eq_true'] at this
    rcases this with (h | h) | h
    · exact absurd h hji
    · exact absurd h hno
    · exact h

theorem wpAnyG_done {listed : Array Bool} {a : Act} {w : World} (hr : Region.ready md ops listed = []) (h : ∀ w', Grew w w' → Q .normal a w') :
    ∀ fuel, wpAnyG P md ops Q fuel listed a w
  | 0 => ⟨hr, h⟩
  | _ + 1 => fun w' hw => ⟨fun _ => h w' hw, by rw [hr]; simp⟩

/-- each of the operations rs comes up next -/
def AllReadyG (P : Program) (md : Region.Mode) (ops : Array Oper) (Q : Exit → Act → World → Prop) (fuel : Nat) (listed : Array Bool) (a : Act) (w : World) (rs : List Nat) : Prop :=
  ∀ i ∈ rs, wpOp P ops Q i (fun a' w' => (isStore ops i = true ∨ Grew w w') ∧ wpAnyG P md ops Q fuel (listed.setIfInBounds i true) a' w') a w
theorem AllReadyG.nil {fuel : Nat} {listed : Array Bool} {a : Act} {w : World} : AllReadyG P md ops Q fuel listed a w [] := fun _ h => by cases h
theorem AllReadyG.cons {fuel : Nat} {listed : Array Bool} {a : Act} {w : World} {i : Nat} {o : Oper} {rs : List Nat} (ho : ops[i]? = some o)
    (h : ∀ K' : Act → World → Prop, Shut (∀ a w1, (isStore ops i = true ∨ Grew w w1) → wpAnyG P md ops Q fuel (listed.setIfInBounds i true) a w1 → K' a w1) → if Region.wanted o (yielded ops a.tmps) = true then Oper.wp P o a w K' Q else K' (a.put o.dst undef) w)
    (hs : AllReadyG P md ops Q fuel listed a w rs) : AllReadyG P md ops Q fuel listed a w (i :: rs) := fun j hj => by
  rcases List.mem_cons.1 hj with rfl | hj
  · exact wpOp_step ho (fun K' hK => h K' (fun a w h1 h2 => hK a w ⟨h1, h2⟩))
  · exact hs j hj
theorem wpAnyG_ready {rs : List Nat} {fuel : Nat} {listed : Array Bool} {a : Act} {w : World} (hr : Region.ready md ops listed = rs) (hne : rs ≠ [])
    (h : ∀ w', Grew w w' → AllReadyG P md ops Q fuel listed a w' rs) : wpAnyG P md ops Q (fuel + 1) listed a w :=
  fun w' hw => ⟨fun h0 => absurd (hr ▸ h0) hne, hr ▸ h w' hw⟩

/-! the same for a region that is written out: the operation is read off the list -/
theorem wpAnyG_takeL {l : List Oper} {i : Nat} {oi : Oper} {v : Value} {fuel : Nat} {listed : Array Bool} {a : Act} {w : World} (hi : l[i]? = some oi)
    (hs : Region.noSelect l.toArray = true) (hf : Region.free md l.toArray listed i = true) (hg : freeG md l.toArray listed i (waits md l.toArray listed i l.toArray.size []) = true) (hr : (Region.ready md l.toArray listed).contains i = true)
    (hQ : ∀ c a w, Q (.panic c) (a.put oi.dst v) w → Q (.panic c) a w) (hy : YieldsG P l.toArray oi v a w)
    (h : wpAnyG P md l.toArray Q fuel (listed.setIfInBounds i true) (a.put oi.dst v) w) : wpAnyG P md l.toArray Q (fuel + 1) listed a w :=
  wpAnyG_take (by simpa using hi) hs hf hg hr hQ hy h
theorem AllReadyG.consL {l : List Oper} {fuel : Nat} {listed : Array Bool} {a : Act} {w : World} {i : Nat} {o : Oper} {rs : List Nat} (ho : l[i]? = some o)
    (h : ∀ K' : Act → World → Prop, Shut (∀ a w1, (isStore l.toArray i = true ∨ Grew w w1) → wpAnyG P md l.toArray Q fuel (listed.setIfInBounds i true) a w1 → K' a w1) → if Region.wanted o (yielded l.toArray a.tmps) = true then Oper.wp P o a w K' Q else K' (a.put o.dst undef) w)
    (hs : AllReadyG P md l.toArray Q fuel listed a w rs) : AllReadyG P md l.toArray Q fuel listed a w (i :: rs) :=
  AllReadyG.cons (by simpa using ho) h hs

theorem wp_region_grew {id : Nat} {a : Act} {w : World} (hm : P.follows .mixedOrders = true)
    (h : wpAnyG P .any ops Q ops.size (Array.replicate ops.size false) a w.drew) : (Code.region id ops true).wp P Q a w :=
  wp_region_any hm (wpAny_of_grew _ _ _ _ h)
end
end

end Go.Proofs.Ytpoiejgoongllaa
