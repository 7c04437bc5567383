/-
  Roller, RollFp, Push, Rolling, Scan, ScanPush.
-/
import Derived.Test.YtnjhipnfhapngaaCutMath
import Derived.Test.YtnjhipnfhapngaaRegC
import Derived.Test.YtnjhipnfhapngaaJoin
import Derived.Test.YtnjhipnfhapngaaReg0
namespace Go.Proofs.Ytnjhipnfhapngaa
/- Roller:
  A rolling.Roller in memory.
-/
section
set_option linter.unusedVariables false
set_option linter.unusedSimpArgs false
set_option linter.unnecessarySimpa false
open Go.RowKit

/-- the cells of a roller -/
def rolA (ring : List Int) (n : Nat) (c nx s p : Int) : Array Value := (ring.map (Value.int .u8) ++ [Value.int .i64 n, .int .i64 c, .int .i64 nx, .int .u64 s, .int .u64 p]).toArray
section
variable {ring : List Int} {n : Nat} {c nx s p : Int}
theorem rolA_ring (h : ring.length = 64) {i : Nat} (hi : i < 64) : (rolA ring n c nx s p)[i]? = some (.int .u8 (ring[i]'(by omega))) := by
  unfold rolA
  rw [List.getElem?_toArray, List.getElem?_append_left (by simpa [h] using hi), List.getElem?_eq_getElem (by simpa [h] using hi), List.getElem_map]
theorem rolA_rest (h : ring.length = 64) (i : Nat) : (rolA ring n c nx s p)[64 + i]? = [Value.int .i64 n, .int .i64 c, .int .i64 nx, .int .u64 s, .int .u64 p][i]? := by
  unfold rolA
  rw [List.getElem?_toArray, List.getElem?_append_right (by simp [h])]
  congr 1
  simp [h]
theorem rolA_setRing (h : ring.length = 64) {i : Nat} (hi : i < 64) (b : Int) : (rolA ring n c nx s p).setIfInBounds i (.int .u8 b) = rolA (ring.set i b) n c nx s p := by
  unfold rolA
  rw [List.setIfInBounds_toArray, List.set_append_left _ _ (by simpa [h] using hi), List.map_set]
theorem rolA_setRest (h : ring.length = 64) (i : Nat) (v : Value) : (rolA ring n c nx s p).setIfInBounds (64 + i) v = (ring.map (Value.int .u8) ++ [Value.int .i64 n, .int .i64 c, .int .i64 nx, .int .u64 s, .int .u64 p].set i v).toArray := by
  unfold rolA
  rw [List.setIfInBounds_toArray, List.set_append_right _ _ (by simp [h])]
  congr 2
  simp [h]
theorem rolA_setC (h : ring.length = 64) (c' : Int) : (rolA ring n c nx s p).setIfInBounds 65 (.int .i64 c') = rolA ring n c' nx s p := rolA_setRest h 1 _
theorem rolA_setN (h : ring.length = 64) (nx' : Int) : (rolA ring n c nx s p).setIfInBounds 66 (.int .i64 nx') = rolA ring n c nx' s p := rolA_setRest h 2 _
theorem rolA_setS (h : ring.length = 64) (s' : Int) : (rolA ring n c nx s p).setIfInBounds 67 (.int .u64 s') = rolA ring n c nx s' p := rolA_setRest h 3 _
end

/-- block g is a roller of size n with the window ws -/
structure Rol (w : World) (g n : Nat) (ws : List Int) : Prop where
  ex : ∃ (ring : List Int) (nx : Nat), Blk w g 140 (rolA ring n ws.length nx (sumZ ws) (powZ (n - 1))) ∧ RingOk ring n nx ws

section
variable {w w' : World} {g n : Nat} {ws : List Int}
theorem Rol.lt (h : Rol w g n ws) : g < w.heap.size := by obtain ⟨_, _, hb, _⟩ := h.ex; exact hb.lt
theorem Rol.ch {S : Nat → Prop} (h : Rol w g n ws) (k : Ch S w w') (hg : ¬ S g) : Rol w' g n ws := by
  obtain ⟨ring, nx, hb, hr⟩ := h.ex
  exact ⟨ring, nx, hb.ch k hg, hr⟩
theorem Rol.of (h : Rol w g n ws) (k : Below w.heap.size w w') : Rol w' g n ws := h.ch (S := NoB) (Ch.of_below k) (fun h => h)
theorem Rol.ne_own {base : Nat} {e : TypeId} {size k : Nat} {v : Value} {xs : List Value} (h : Rol w g n ws) (ho : w.ownsRow base e size v k xs) (he : e ≠ 140) : v.ownBlock ≠ some g := by
  obtain ⟨_, _, hb, _⟩ := h.ex
  exact own_blk_ne ho hb he
theorem Rol.le (h : Rol w g n ws) : ws.length ≤ n ∧ 1 ≤ n ∧ n ≤ 64 := by obtain ⟨_, _, _, hr⟩ := h.ex; exact ⟨hr.le, hr.lo, hr.hi⟩
theorem Rol.elem (h : Rol w g n ws) : ∀ z ∈ ws, 0 ≤ z ∧ z ≤ 255 := by obtain ⟨_, _, _, hr⟩ := h.ex; exact hr.elem
end
end

/- RollFp:
  rolling.add, rolling.multiply: arithmetic modulo Prime once more.
-/
section
set_option linter.unusedVariables false
set_option linter.unusedSimpArgs false
set_option linter.unnecessarySimpa false
open Go.RowKit Go.Lib

set_option maxHeartbeats 400000 in
theorem rAdd_any (a b : Int) (ha0 : 0 ≤ a) (ha : a < 2305843009213693951) (hb0 : 0 ≤ b) (hb : b < 2305843009213693951) (w : World) :
    Calls Try.prog 95 #[.int .u64 a, .int .u64 b] w fun e w' => e = .returned (.int .u64 (fadd a b)) ∧ w = w' := by
  go_enter Try.func95, Try.ntmps95
  go_wp2
  · have h : 2305843009213693951 ≤ a + b := by assumption
    go_ret
    exact ⟨ret_u64 (fadd_high (by omega) h), rfl⟩
  · have h : a + b < 2305843009213693951 := by assumption
    go_ret
    exact ⟨ret_u64 (fadd_low (by omega) h), rfl⟩

set_option maxHeartbeats 400000 in
theorem rMultiply_any (a b : Int) (ha0 : 0 ≤ a) (ha : a < 2305843009213693951) (hb0 : 0 ≤ b) (hb : b < 2305843009213693951) (w : World) :
    Calls Try.prog 94 #[.int .u64 a, .int .u64 b] w fun e w' => e = .returned (.int .u64 (fmul a b)) ∧ w = w' := by
  have HB := Lib.hid (words_hi a b ⟨ha0, ha⟩ ⟨hb0, hb⟩)
  have HW := Lib.hid (words_eq (a * b))
  go_enter Try.func94, Try.ntmps94
  go_wp2_with fail
  refine (mul64_int _ _ (by omega) (by omega) (by omega) (by omega) _).mono ?_
  rintro e w' ⟨rfl, rfl⟩
  obtain ⟨B0, B1⟩ := HB.out
  have L0 : 0 ≤ a * b % 18446744073709551616 := by omega
  have L1 : a * b % 18446744073709551616 < 18446744073709551616 := by omega
  have HW' := HW.out
  clear HB HW
  generalize a * b / 18446744073709551616 = hi at *
  generalize a * b % 18446744073709551616 = lo at *
  have HW := Lib.hid (fmul_words a b hi lo HW')
  clear HW'
  have HL := Lib.hid (low61 lo L0 L1)
  have HH := Lib.hid (high61 hi lo B0 B1 L0 L1)
  go_wp2_with fail
  rw [HL.out, HH.out, Int.tmod_eq_emod_of_nonneg (by omega), Int.tmod_eq_emod_of_nonneg (by omega)]
  refine (rAdd_any _ _ (by omega) (by omega) (by omega) (by omega) _).mono ?_
  rintro e w' ⟨rfl, rfl⟩
  go_wp2
  go_ret
  exact ⟨ret_u64 HW.out, rfl⟩
end

/- Push:
  rolling.(*Roller).Push.
-/
section
set_option linter.unusedVariables false
set_option linter.unusedSimpArgs false
set_option linter.unnecessarySimpa false
open Go.RowKit
attribute [local go_sem ↓] Go.wp_at_zero Go.wp_at_succ

/-- what the walk needs of a roller's cells -/
theorem rol_cells {w : World} {g n nx : Nat} {c s p : Int} {ring : List Int} (hB : Blk w g 140 (rolA ring n c nx s p)) (h64 : ring.length = 64) (hnx : nx < 64) :
    w.cell? ⟨g, nx, none⟩ = some (.int .u8 (ring[nx]'(by omega))) ∧
    w.cell? ⟨g, 64, none⟩ = some (.int .i64 n) ∧ w.cell? ⟨g, 65, none⟩ = some (.int .i64 c) ∧ w.cell? ⟨g, 66, none⟩ = some (.int .i64 nx) ∧ w.cell? ⟨g, 67, none⟩ = some (.int .u64 s) ∧ w.cell? ⟨g, 68, none⟩ = some (.int .u64 p) ∧
    w.frozen? ⟨g, nx, none⟩ = false ∧ w.frozen? ⟨g, 65, none⟩ = false ∧ w.frozen? ⟨g, 66, none⟩ = false ∧ w.frozen? ⟨g, 67, none⟩ = false :=
  ⟨(hB.cell nx).trans (rolA_ring h64 hnx), (hB.cell 64).trans (rolA_rest h64 0), (hB.cell 65).trans (rolA_rest h64 1), (hB.cell 66).trans (rolA_rest h64 2), (hB.cell 67).trans (rolA_rest h64 3), (hB.cell 68).trans (rolA_rest h64 4),
    hB.frozen _, hB.frozen _, hB.frozen _, hB.frozen _⟩

set_option maxHeartbeats 1000000 in
theorem push_lt (g n : Nat) (ws : List Int) (b : Int) (w : World) (hR : Rol w g n ws) (hl : ws.length < n) (b0 : 0 ≤ b) (b1 : b ≤ 255) :
    Calls Try.prog 89 #[.pointer (some ⟨g, 0, none⟩), .int .u8 b] w fun e w' => e = .returned (.int .u64 (sumZ (pushW n ws b))) ∧ Rol w' g n (pushW n ws b) ∧ Ch (At g) w w' := by
  obtain ⟨ring, nx, hB, hr⟩ := hR.ex
  have h64 := hr.len
  have hnx := hr.next
  have hhi := hr.hi
  have hlo := hr.lo
  obtain ⟨c, c64, c65, c66, c67, c68, fn, f65, f66, f67⟩ := rol_cells hB h64 (by omega)
  have hne : ((ws.length : Int) == (n : Int)) = false := beq_eq_false_iff_ne.2 (by omega)
  have i0 : (0 : Int) ≤ (nx : Int) := by omega
  have i1 : (nx : Int) < 64 := by omega
  have n1 : nx ≠ 64 := by omega
  have n2 : nx ≠ 65 := by omega
  have n3 : nx ≠ 66 := by omega
  have n4 : nx ≠ 67 := by omega
  have s0 := (sumZ_fp ws).1
  have s1 := (sumZ_fp ws).2
  have m0 := fmul_lo (sumZ ws) 747382712868975713
  have m1 := fmul_hi (sumZ ws) 747382712868975713
  have HB := Lib.hid hB
  clear hB
  go_enter Try.func89, Try.ntmps89
  go_wp2_with fail
  go_quiet (fail)
  go_wp2_with fail
  have hB1 := (HB.out.drewN nq).set_ 65 (.int .i64 (↑ws.length + 1))
  rw [rolA_setC h64] at hB1
  have k1 := ((Ch.refl (At g) w).drewN nq).set_at 65 (.int .i64 (↑ws.length + 1))
  generalize (w.drewN nq).setCell ⟨g, 65, none⟩ (.int .i64 (↑ws.length + 1)) = w1 at *
  clear c c64 c65 c66 c67 c68 fn f65 f66 f67 HB
  obtain ⟨c, c64, c65, c66, c67, c68, fn, f65, f66, f67⟩ := rol_cells hB1 h64 (by omega)
  -- the byte goes into the ring
  refine wp_region_g 9 (by kernel_rfl) ?_
  refine AllC.head 0 9 (fuel := 1) (by first | exact fun h k => Grew.trans h k | exact fun h k => cls_grew h k) (grew_drew _) (by rfl) (by kernel_rfl) ?_
  simp only [List.take_succ_cons, List.take_zero, List.drop_succ_cons, List.drop_zero]
  repeat (first
    | (refine HeadC.val (by rfl) ?_
       apply Exists.intro
       refine ⟨fun w' hw' => ?_, ?_⟩
       · (have hf_0 := cell_up hw' c66; (go_simp) <;> (try go_ints) <;> with_reducible rfl)
       try simp only [Act.put, List.setIfInBounds_toArray, List.set_cons_zero, List.set_cons_succ])
    | (refine HeadC.shut (by rfl) ?_
       try simp only [Act.put, List.setIfInBounds_toArray, List.set_cons_zero, List.set_cons_succ]))
  refine HeadC.nil ?_
  refine AllC.tail 9 (by rfl) (by kernel_rfl) ?_
  intro wt hwt
  simp only [List.drop_succ_cons, List.drop_zero]
  have hg1 : Grew w1 wt := (grew_drew _).trans hwt
  replace hB1 := hB1.of hg1
  replace k1 := k1.next hg1
  clear hg1 hwt c c64 c65 c66 c67 c68 fn f65 f66 f67 w1
  obtain ⟨c, c64, c65, c66, c67, c68, fn, f65, f66, f67⟩ := rol_cells hB1 h64 (by omega)
  go_wp2_with fail
  have hB2 := hB1.set_ nx (.int .u8 b)
  rw [rolA_setRing h64 (by omega)] at hB2
  have k2 := k1.set_at nx (.int .u8 b)
  have h64' : (ring.set nx b).length = 64 := by simpa using h64
  generalize wt.setCell ⟨g, nx, none⟩ (.int .u8 b) = w2 at *
  clear hB1 k1 c c64 c65 c66 c67 c68 fn f65 f66 f67
  obtain ⟨c, c64, c65, c66, c67, c68, fn, f65, f66, f67⟩ := rol_cells hB2 h64' (by omega)
  clear c
  -- the next place
  have HQ := Lib.hid (show ((nx : Int) + 1) % n = (((nx + 1) % n : Nat) : Int) by rw [Int.natCast_emod, Int.natCast_add]; rfl)
  have q0 : n ≠ 0 := by omega
  have q1 : (n : Int) ≠ 0 := by omega
  refine wp_region_g 13 (by kernel_rfl) ?_
  refine AllC.head 0 13 (fuel := 1) (by first | exact fun h k => Grew.trans h k | exact fun h k => cls_grew h k) (grew_drew _) (by rfl) (by kernel_rfl) ?_
  simp only [List.take_succ_cons, List.take_zero, List.drop_succ_cons, List.drop_zero]
  repeat (first
    | (refine HeadC.val (by rfl) ?_
       apply Exists.intro
       refine ⟨fun w' hw' => ?_, ?_⟩
       · (have hf_0 := cell_up hw' c66; have hf_1 := cell_up hw' c64; (go_simp) <;> (try go_ints) <;> with_reducible rfl)
       try simp only [Act.put, List.setIfInBounds_toArray, List.set_cons_zero, List.set_cons_succ])
    | (refine HeadC.shut (by rfl) ?_
       try simp only [Act.put, List.setIfInBounds_toArray, List.set_cons_zero, List.set_cons_succ]))
  refine HeadC.nil ?_
  refine AllC.tail 13 (by rfl) (by kernel_rfl) ?_
  intro wt hwt
  simp only [List.drop_succ_cons, List.drop_zero]
  have hg1 : Grew w2 wt := (grew_drew _).trans hwt
  replace hB2 := hB2.of hg1
  replace k2 := k2.next hg1
  clear hg1 hwt c64 c65 c66 c67 c68 fn f65 f66 f67 w2
  obtain ⟨c, c64, c65, c66, c67, c68, fn, f65, f66, f67⟩ := rol_cells hB2 h64' (by omega)
  go_wp2_with fail
  refine (rMultiply_any _ _ s0 s1 (by omega) (by omega) _).mono ?_
  rintro e w' ⟨rfl, rfl⟩
  go_wp2_with fail
  refine (rAdd_any _ _ m0 m1 (by omega) (by omega) _).mono ?_
  rintro e w' ⟨rfl, rfl⟩
  have HV := Lib.hid (show fadd (fmul (sumZ ws) 747382712868975713) (b + 1) = sumZ (pushW n ws b) by rw [pushW_lt hl, sumZ_snoc]; rfl)
  rw [HV.out]
  go_wp2_with fail
  go_ret
  refine ⟨ret_u64 rfl, ⟨ring.set nx b, (nx + 1) % n, ?_, hr.push_lt hl b0 b1⟩, (k2.set_at 66 _).set_at 67 _⟩
  have hB3 := (hB2.set_ 66 (.int .i64 (((nx : Int) + 1) % n))).set_ 67 (.int .u64 (sumZ (pushW n ws b)))
  rw [rolA_setN h64', rolA_setS h64', HQ.out] at hB3
  rw [HQ.out, show ((pushW n ws b).length : Int) = (ws.length : Int) + 1 by rw [pushW_len_lt hl]; omega]
  exact hB3

set_option maxHeartbeats 1000000 in
theorem push_ge (g n : Nat) (z : Int) (t : List Int) (b : Int) (w : World) (hR : Rol w g n (z :: t)) (hl : t.length + 1 = n) (b0 : 0 ≤ b) (b1 : b ≤ 255) :
    Calls Try.prog 89 #[.pointer (some ⟨g, 0, none⟩), .int .u8 b] w fun e w' => e = .returned (.int .u64 (sumZ (pushW n (z :: t) b))) ∧ Rol w' g n (pushW n (z :: t) b) ∧ Ch (At g) w w' := by
  obtain ⟨ring, nx, hB, hr⟩ := hR.ex
  have hll : (z :: t).length = n := by simpa using hl
  have h64 := hr.len
  have hnx := hr.next
  have hhi := hr.hi
  have hlo := hr.lo
  have ho := hr.oldest hll
  have hzb := hr.elem z (by simp)
  have z0 := hzb.1
  have z1 := hzb.2
  clear hzb
  obtain ⟨c, c64, c65, c66, c67, c68, fn, f65, f66, f67⟩ := rol_cells hB h64 (by omega)
  have hrz : ring[nx]'(by omega) = z := by
    rw [List.getElem?_eq_getElem (by omega)] at ho
    simpa using ho
  rw [hrz] at c
  have HL := Lib.hid hll
  have HSD := Lib.hid (show fsub (sumZ (z :: t)) (fmul (z + 1) (powZ (n - 1))) = sumZ t by
    have h := sumZ_drop t z0 z1
    rw [show n - 1 = t.length by omega]; exact h)
  have hne : (((z :: t).length : Int) == (n : Int)) = true := beq_iff_eq.2 (by omega)
  have p0 := (powZ_fp (n - 1)).1
  have p1 := (powZ_fp (n - 1)).2
  have i0 : (0 : Int) ≤ (nx : Int) := by omega
  have i1 : (nx : Int) < 64 := by omega
  have n1 : nx ≠ 64 := by omega
  have n2 : nx ≠ 65 := by omega
  have n3 : nx ≠ 66 := by omega
  have n4 : nx ≠ 67 := by omega
  have s0' := (sumZ_fp (z :: t)).1
  have s1' := (sumZ_fp (z :: t)).2
  have s0 := (sumZ_fp t).1
  have s1 := (sumZ_fp t).2
  have m0 := fmul_lo (sumZ t) 747382712868975713
  have m1 := fmul_hi (sumZ t) 747382712868975713
  have v0 := fmul_lo (z + 1) (powZ (n - 1))
  have v1 := fmul_hi (z + 1) (powZ (n - 1))
  have HS := Lib.hid (fsub_neg (a := sumZ (z :: t)) (b := fmul (z + 1) (powZ (n - 1))))
  have HB := Lib.hid hB
  clear hB ho hrz hl hll
  generalize hws : z :: t = ws at *
  have HWS := Lib.hid hws
  clear hws
  generalize hpw : powZ (n - 1) = pw at *
  have HPW := Lib.hid hpw
  clear hpw
  go_enter Try.func89, Try.ntmps89
  go_wp2_with fail
  go_quiet (fail)
  go_wp2_with fail
  refine wp_region_g 16 (by kernel_rfl) ?_
  refine AllC.head 0 16 (fuel := 1) (by first | exact fun h k => Grew.trans h k | exact fun h k => cls_grew h k) (grew_drew _) (by rfl) (by kernel_rfl) ?_
  simp only [List.take_succ_cons, List.take_zero, List.drop_succ_cons, List.drop_zero]
  repeat (first
    | (refine HeadC.val (by rfl) ?_
       apply Exists.intro
       refine ⟨fun w' hw' => ?_, ?_⟩
       · (have hf_0 := cell_up hw' (show (w.drewN nq).cell? _ = _ from c66); have hf_1 := cell_up hw' (show (w.drewN nq).cell? _ = _ from c); have hf_2 := cell_up hw' (show (w.drewN nq).cell? _ = _ from c68); (go_simp) <;> (try go_ints) <;> with_reducible rfl)
       try simp only [Act.put, List.setIfInBounds_toArray, List.set_cons_zero, List.set_cons_succ])
    | (refine HeadC.call (by rfl) ?_
       apply Exists.intro; apply Exists.intro
       refine ⟨fun w' hw' => ?_, ?_⟩
       · (have hf_0 := cell_up hw' (show (w.drewN nq).cell? _ = _ from c66); have hf_1 := cell_up hw' (show (w.drewN nq).cell? _ = _ from c); have hf_2 := cell_up hw' (show (w.drewN nq).cell? _ = _ from c68); (go_simp) <;> first | (refine ⟨?_, ?_⟩ <;> with_reducible rfl) | with_reducible rfl)
       apply Exists.intro
       refine ⟨fun w' hw' => ?_, ?_⟩
       · (first | exact grew_same (rMultiply_any _ _ (by omega) (by omega) p0 p1 _))
       try simp only [Act.put, List.setIfInBounds_toArray, List.set_cons_zero, List.set_cons_succ])
    | (refine HeadC.shut (by rfl) ?_
       try simp only [Act.put, List.setIfInBounds_toArray, List.set_cons_zero, List.set_cons_succ]))
  refine HeadC.nil ?_
  refine AllC.tail 16 (by rfl) (by kernel_rfl) ?_
  intro wt hwt
  simp only [List.drop_succ_cons, List.drop_zero]
  have hg1 : Grew w wt := (grew_drawn ⟨nq, rfl⟩).trans ((grew_drew _).trans hwt)
  replace HB := Lib.hid (HB.out.of hg1)
  have k0 := (Ch.refl (At g) w).next hg1
  clear hg1 hwt c c64 c65 c66 c67 c68 fn f65 f66 f67
  obtain ⟨c, c64, c65, c66, c67, c68, fn, f65, f66, f67⟩ := rol_cells HB.out h64 (by omega)
  go_wp2_with fail
  refine (rAdd_any _ _ s0' s1' (by omega) (by omega) _).mono ?_
  rintro e w' ⟨rfl, rfl⟩
  rw [HS.out, HSD.out]
  go_wp2_with fail
  have hB1 := HB.out.set_ 67 (.int .u64 (sumZ t))
  rw [rolA_setS h64] at hB1
  have k1 := k0.set_at 67 (.int .u64 (sumZ t))
  generalize wt.setCell ⟨g, 67, none⟩ (.int .u64 (sumZ t)) = w1 at *
  clear c c64 c65 c66 c67 c68 fn f65 f66 f67 HB
  obtain ⟨c, c64, c65, c66, c67, c68, fn, f65, f66, f67⟩ := rol_cells hB1 h64 (by omega)
  -- the byte goes into the ring
  refine wp_region_g 9 (by kernel_rfl) ?_
  refine AllC.head 0 9 (fuel := 1) (by first | exact fun h k => Grew.trans h k | exact fun h k => cls_grew h k) (grew_drew _) (by rfl) (by kernel_rfl) ?_
  simp only [List.take_succ_cons, List.take_zero, List.drop_succ_cons, List.drop_zero]
  repeat (first
    | (refine HeadC.val (by rfl) ?_
       apply Exists.intro
       refine ⟨fun w' hw' => ?_, ?_⟩
       · (have hf_0 := cell_up hw' c66; (go_simp) <;> (try go_ints) <;> with_reducible rfl)
       try simp only [Act.put, List.setIfInBounds_toArray, List.set_cons_zero, List.set_cons_succ])
    | (refine HeadC.shut (by rfl) ?_
       try simp only [Act.put, List.setIfInBounds_toArray, List.set_cons_zero, List.set_cons_succ]))
  refine HeadC.nil ?_
  refine AllC.tail 9 (by rfl) (by kernel_rfl) ?_
  intro wt hwt
  simp only [List.drop_succ_cons, List.drop_zero]
  have hg1 : Grew w1 wt := (grew_drew _).trans hwt
  replace hB1 := hB1.of hg1
  replace k1 := k1.next hg1
  clear hg1 hwt c c64 c65 c66 c67 c68 fn f65 f66 f67 w1
  obtain ⟨c, c64, c65, c66, c67, c68, fn, f65, f66, f67⟩ := rol_cells hB1 h64 (by omega)
  go_wp2_with fail
  have hB2 := hB1.set_ nx (.int .u8 b)
  rw [rolA_setRing h64 (by omega)] at hB2
  have k2 := k1.set_at nx (.int .u8 b)
  have h64' : (ring.set nx b).length = 64 := by simpa using h64
  generalize wt.setCell ⟨g, nx, none⟩ (.int .u8 b) = w2 at *
  clear hB1 k1 c c64 c65 c66 c67 c68 fn f65 f66 f67
  obtain ⟨c, c64, c65, c66, c67, c68, fn, f65, f66, f67⟩ := rol_cells hB2 h64' (by omega)
  clear c
  -- the next place
  have HQ := Lib.hid (show ((nx : Int) + 1) % n = (((nx + 1) % n : Nat) : Int) by rw [Int.natCast_emod, Int.natCast_add]; rfl)
  have q0 : n ≠ 0 := by omega
  have q1 : (n : Int) ≠ 0 := by omega
  refine wp_region_g 13 (by kernel_rfl) ?_
  refine AllC.head 0 13 (fuel := 1) (by first | exact fun h k => Grew.trans h k | exact fun h k => cls_grew h k) (grew_drew _) (by rfl) (by kernel_rfl) ?_
  simp only [List.take_succ_cons, List.take_zero, List.drop_succ_cons, List.drop_zero]
  repeat (first
    | (refine HeadC.val (by rfl) ?_
       apply Exists.intro
       refine ⟨fun w' hw' => ?_, ?_⟩
       · (have hf_0 := cell_up hw' c66; have hf_1 := cell_up hw' c64; (go_simp) <;> (try go_ints) <;> with_reducible rfl)
       try simp only [Act.put, List.setIfInBounds_toArray, List.set_cons_zero, List.set_cons_succ])
    | (refine HeadC.shut (by rfl) ?_
       try simp only [Act.put, List.setIfInBounds_toArray, List.set_cons_zero, List.set_cons_succ]))
  refine HeadC.nil ?_
  refine AllC.tail 13 (by rfl) (by kernel_rfl) ?_
  intro wt hwt
  simp only [List.drop_succ_cons, List.drop_zero]
  have hg1 : Grew w2 wt := (grew_drew _).trans hwt
  replace hB2 := hB2.of hg1
  replace k2 := k2.next hg1
  clear hg1 hwt c64 c65 c66 c67 c68 fn f65 f66 f67 w2
  obtain ⟨c, c64, c65, c66, c67, c68, fn, f65, f66, f67⟩ := rol_cells hB2 h64' (by omega)
  go_wp2_with fail
  refine (rMultiply_any _ _ s0 s1 (by omega) (by omega) _).mono ?_
  rintro e w' ⟨rfl, rfl⟩
  go_wp2_with fail
  refine (rAdd_any _ _ m0 m1 (by omega) (by omega) _).mono ?_
  rintro e w' ⟨rfl, rfl⟩
  have HV := Lib.hid (show fadd (fmul (sumZ t) 747382712868975713) (b + 1) = sumZ (pushW n ws b) by have h := HL.out; rw [← HWS.out] at h ⊢; rw [pushW_ge (by omega)]; show _ = sumZ (t ++ [b]); rw [sumZ_snoc]; rfl)
  rw [HV.out]
  go_wp2_with fail
  go_ret
  refine ⟨ret_u64 rfl, ⟨ring.set nx b, (nx + 1) % n, ?_, hr.push_ge HL.out b0 b1⟩, (k2.set_at 66 _).set_at 67 _⟩
  have hB3 := (hB2.set_ 66 (.int .i64 (((nx : Int) + 1) % n))).set_ 67 (.int .u64 (sumZ (pushW n ws b)))
  rw [rolA_setN h64', rolA_setS h64', HQ.out] at hB3
  rw [HQ.out, show ((pushW n ws b).length : Int) = (ws.length : Int) by rw [pushW_len_ge (by have := HL.out; omega)], HPW.out]
  exact hB3


theorem push_any (g n : Nat) (ws : List Int) (b : Int) (w : World) (hR : Rol w g n ws) (b0 : 0 ≤ b) (b1 : b ≤ 255) :
    Calls Try.prog 89 #[.pointer (some ⟨g, 0, none⟩), .int .u8 b] w fun e w' => e = .returned (.int .u64 (sumZ (pushW n ws b))) ∧ Rol w' g n (pushW n ws b) ∧ Ch (At g) w w' := by
  rcases Nat.lt_or_ge ws.length n with h | h
  · exact push_lt g n ws b w hR h b0 b1
  · have h1 := hR.le
    match ws, h, h1, hR with
    | [], h, h1, _ => simp at h; omega
    | z :: t, h, h1, hR => exact push_ge g n z t b w hR (by simp at h h1; omega) b0 b1
end

/- Rolling:
  rolling.New, Reset, Len, Sum, Copy.
-/
section
set_option linter.unusedVariables false
set_option linter.unusedSimpArgs false
set_option linter.unnecessarySimpa false
open Go.RowKit
attribute [local go_sem ↓] Go.wp_at_zero Go.wp_at_succ

theorem zeros_byte : ∀ z ∈ List.replicate 64 (0 : Int), 0 ≤ z ∧ z ≤ 255 := by
  intro z hz
  have := List.eq_of_mem_replicate hz
  omega

theorem rolA_size {ring : List Int} {n : Nat} {c nx s p : Int} (h : ring.length = 64) : (rolA ring n c nx s p).size = 69 := by simp [rolA, h]
theorem rolA_setSize {ring : List Int} {n : Nat} {c nx s p : Int} (h : ring.length = 64) (n' : Nat) : (rolA ring n c nx s p).setIfInBounds 64 (.int .i64 n') = rolA ring n' c nx s p := rolA_setRest h 0 _
theorem rolA_setPow {ring : List Int} {n : Nat} {c nx s p : Int} (h : ring.length = 64) (p' : Int) : (rolA ring n c nx s p).setIfInBounds 68 (.int .u64 p') = rolA ring n c nx s p' := rolA_setRest h 4 _
theorem rol_zero (w : World) : (zeroValue 140).run Try.prog w = .ok (.agg (rolA (List.replicate 64 0) 0 0 0 0 0)) w := by kernel_rfl
theorem rolA_ones {ring : List Int} {n : Nat} {c nx s p : Int} : (rolA ring n c nx s p).all (·.oneCell') = true := by
  unfold rolA
  rw [Array.all_eq_true_iff_forall_mem]
  intro v hv
  simp at hv
  rcases hv with ⟨z, _, rfl⟩ | rfl | rfl | rfl | rfl | rfl <;> rfl

set_option maxHeartbeats 1000000 in
theorem rNew_ok (n : Nat) (w : World) (h1 : 1 ≤ n) (h2 : n ≤ 64) :
    Calls Try.prog 88 #[.int .i64 n] w fun e w' => ∃ g, e = .returned (.tuple #[.pointer (some ⟨g, 0, none⟩), .int .i64 0]) ∧ Rol w' g n [] ∧ w.heap.size ≤ g ∧ Below w.heap.size w w' := by
  have hz := rol_zero
  have hr : (List.replicate 64 (0 : Int)).length = 64 := by simp
  have HR := Lib.hid hr
  have HZ := Lib.hid zeros_byte
  have hs := rolA_size (n := 0) (c := 0) (nx := 0) (s := 0) (p := 0) hr
  have hs1 := rolA_setSize (n := 0) (c := 0) (nx := 0) (s := 0) (p := 0) hr n
  have hs2 := rolA_setPow (n := n) (c := 0) (nx := 0) (s := 0) (p := 0) hr (powZ (n - 1))
  clear hr
  generalize List.replicate 64 (0 : Int) = R at *
  go_enter Try.func88, Try.ntmps88
  go_wp2_with fail
  refine (power_any _ _).mono ?_
  rintro e wn ⟨rfl, rfl⟩
  rw [powI_in (by omega) (by omega), show ((n : Int) - 1).toNat = n - 1 by omega]
  go_wp2_with fail
  go_ret2
  refine ⟨w.heap.size, rfl, ⟨R, 0, Blk.new w _ _, RingOk.empty HR.out h1 h2 HZ.out⟩, Nat.le_refl _, by (repeat (first | exact Below.refl _ _ | assumption | refine Below.drew ?_ | refine below_drewN ?_ _ | refine Below.alloc ?_ (by first | omega | (simp; done) | (simp; omega) | (simp [World.setCell]; omega)) _ | refine Below.setCell ?_ (by first | omega | (simp; done) | (simp; omega) | (simp [World.setCell]; omega)) _))⟩

set_option maxHeartbeats 1000000 in
theorem rNew_no (n : Int) (w : World) (h : ¬ (1 ≤ n ∧ n ≤ 64)) :
    Calls Try.prog 88 #[.int .i64 n] w fun e w' => e = .returned (.tuple #[.pointer none, .int .i64 230]) ∧ w = w' := by
  by_cases h1 : n < 1
  · go_enter Try.func88, Try.ntmps88
    go_wp2_with fail
    go_ret2
    exact ⟨rfl, rfl⟩
  · have h2 : 64 < n := by omega
    have h1' : 1 ≤ n := by omega
    clear h h1
    go_enter Try.func88, Try.ntmps88
    go_wp2_with fail
    go_ret2
    exact ⟨rfl, rfl⟩

end

/- Scan:
  chunker's scanner: newScanner, push; chunker.Check.
-/
section
set_option linter.unusedVariables false
set_option linter.unusedSimpArgs false
set_option linter.unnecessarySimpa false
open Go.RowKit
attribute [local go_sem ↓] Go.wp_at_zero Go.wp_at_succ

/-- parameters by value -/
def cutV (mn mx wn m : Int) : Value := .agg #[.int .i64 mn, .int .i64 mx, .int .i64 wn, .int .u64 m]
/-- the error for parameters -/
def cutErr (mn mx wn : Int) : Int := if wn < 1 ∨ 64 < wn ∨ mn < wn ∨ mx < mn ∨ 8192 < mx then 240 else 0
theorem cutErr_bad {mn mx wn : Int} (h : wn < 1 ∨ 64 < wn ∨ mn < wn ∨ mx < mn ∨ 8192 < mx) : 240 = cutErr mn mx wn := (if_pos h).symm
theorem cutErr_ok {mn mx wn : Int} (h : ¬ (wn < 1 ∨ 64 < wn ∨ mn < wn ∨ mx < mn ∨ 8192 < mx)) : 0 = cutErr mn mx wn := (if_neg h).symm
theorem cutErr_z {c : CutZ} (ok : c.Ok) : cutErr c.mn c.mx c.wn = 0 := by
  obtain ⟨h1, h2, h3, h4, h5, _, _⟩ := ok
  exact if_neg (by omega)

set_option maxHeartbeats 400000 in
theorem check_any (mn mx wn m : Int) (w : World) :
    Calls Try.prog 87 #[cutV mn mx wn m] w fun e w' => e = .returned (.int .i64 (cutErr mn mx wn)) ∧ Below w.heap.size w w' := by
  unfold cutV
  go_enter Try.func87, Try.ntmps87
  go_wp2
  all_goals go_ret
  all_goals refine ⟨ret_i64 ?_, by (repeat (first | exact Below.refl _ _ | assumption | refine Below.drew ?_ | refine below_drewN ?_ _ | refine Below.alloc ?_ (by first | omega | (simp; done) | (simp; omega) | (simp [World.setCell]; omega)) _ | refine Below.setCell ?_ (by first | omega | (simp; done) | (simp; omega) | (simp [World.setCell]; omega)) _))⟩
  all_goals first | exact cutErr_bad (by omega) | exact cutErr_ok (by omega)

set_option maxHeartbeats 400000 in
theorem refCheck_any (mn mx wn m : Int) (w : World) :
    Calls Try.prog 85 #[cutV mn mx wn m] w fun e w' => e = .returned (.int .i64 (cutErr mn mx wn)) ∧ Below w.heap.size w w' := by
  unfold cutV
  go_enter Try.func85, Try.ntmps85
  go_wp2
  all_goals go_ret
  all_goals refine ⟨ret_i64 ?_, by (repeat (first | exact Below.refl _ _ | assumption | refine Below.drew ?_ | refine below_drewN ?_ _ | refine Below.alloc ?_ (by first | omega | (simp; done) | (simp; omega) | (simp [World.setCell]; omega)) _ | refine Below.setCell ?_ (by first | omega | (simp; done) | (simp; omega) | (simp [World.setCell]; omega)) _))⟩
  all_goals first | exact cutErr_bad (by omega) | exact cutErr_ok (by omega)

/-- the cells of a scanner -/
def scA (c : CutZ) (g : Nat) (L : Int) : Array Value := #[.int .i64 c.mn, .int .i64 c.mx, .int .i64 c.wn, .int .u64 c.mask, .pointer (some ⟨g, 0, none⟩), .int .i64 L]
/-- block s is a scanner with the roller g; T: all bytes up to now; L: the bytes of the chunk up to now -/
structure Scn (w : World) (s g : Nat) (c : CutZ) (T : List Int) (L : Nat) : Prop where
  blk : Blk w s 118 (scA c g L)
  rol : Rol w g c.wn (lastN c.wn T)
theorem Scn.ne {w : World} {s g : Nat} {c : CutZ} {T : List Int} {L : Nat} (h : Scn w s g c T L) : s ≠ g := by
  obtain ⟨_, _, hB', _⟩ := h.rol.ex
  exact h.blk.ne_ hB' (by decide)
theorem Scn.ch {w w' : World} {S : Nat → Prop} {s g : Nat} {c : CutZ} {T : List Int} {L : Nat} (h : Scn w s g c T L) (k : Ch S w w') (h1 : ¬ S s) (h2 : ¬ S g) : Scn w' s g c T L := ⟨h.blk.ch k h1, h.rol.ch k h2⟩
theorem Scn.of {w w' : World} {s g : Nat} {c : CutZ} {T : List Int} {L : Nat} (h : Scn w s g c T L) (k : Below w.heap.size w w') : Scn w' s g c T L := ⟨h.blk.of k, h.rol.of k⟩
theorem Scn.cells {w : World} {s g : Nat} {c : CutZ} {T : List Int} {L : Nat} (h : Scn w s g c T L) :
    w.cell? ⟨s, 0, none⟩ = some (.int .i64 c.mn) ∧ w.cell? ⟨s, 1, none⟩ = some (.int .i64 c.mx) ∧ w.cell? ⟨s, 3, none⟩ = some (.int .u64 c.mask) ∧ w.cell? ⟨s, 4, none⟩ = some (.pointer (some ⟨g, 0, none⟩)) ∧ w.cell? ⟨s, 5, none⟩ = some (.int .i64 L) ∧ w.frozen? ⟨s, 5, none⟩ = false :=
  ⟨(h.blk.cell 0).trans rfl, (h.blk.cell 1).trans rfl, (h.blk.cell 3).trans rfl, (h.blk.cell 4).trans rfl, (h.blk.cell 5).trans rfl, h.blk.frozen 5⟩

set_option maxHeartbeats 1000000 in
theorem newScanner_ok (c : CutZ) (ok : c.Ok) (w : World) :
    Calls Try.prog 74 #[cutV c.mn c.mx c.wn c.mask] w fun e w' => ∃ s g, e = .returned (.tuple #[.pointer (some ⟨s, 0, none⟩), .int .i64 0]) ∧ Scn w' s g c [] 0 ∧ w.heap.size ≤ s ∧ w.heap.size ≤ g ∧ Below w.heap.size w w' := by
  have HC := Lib.hid (fun W => check_any c.mn c.mx c.wn c.mask W)
  rw [cutErr_z ok] at HC
  unfold cutV at HC ⊢
  have o1 := ok.w1
  have o2 := ok.w64
  have HN := Lib.hid (fun W => rNew_ok c.wn W o1 o2)
  obtain ⟨mn, mx, wn, mask⟩ := c
  go_enter Try.func74, Try.ntmps74
  go_wp2_with fail
  refine (HC.out _).mono ?_
  rintro e w1 ⟨rfl, hb⟩
  have g0 := grew_alloc w (.cells #[.int .i64 mn, .int .i64 mx, .int .i64 wn, .int .u64 mask] 83)
  have hc0 := (Blk.new w 83 #[.int .i64 mn, .int .i64 mx, .int .i64 wn, .int .u64 mask]).of hb
  have hb1 : Grew w w1 := g0.trans hb
  have d0 := hc0.cell 0
  have d1 := hc0.cell 1
  have d2 := hc0.cell 2
  have d3 := hc0.cell 3
  simp only [List.getElem?_toArray, List.getElem?_cons_zero, List.getElem?_cons_succ] at d0 d1 d2 d3
  clear g0 hb HC
  go_wp2_with fail
  refine (HN.out _).mono ?_
  rintro e w2 ⟨g, rfl, hR, hg, hb⟩
  replace d0 := cell_up hb d0
  replace d1 := cell_up hb d1
  replace d2 := cell_up hb d2
  replace d3 := cell_up hb d3
  have hs1 := hb1.size
  have hb2 : Grew w w2 := Grew.trans hb1 hb
  clear hb hb1 hc0 HN
  go_wp2_with fail
  go_ret2
  have hs2 := hb2.size
  exact ⟨w2.heap.size, g, rfl, ⟨Blk.new w2 _ _, by rw [lastN_nil]; exact hR.of (grew_alloc _ _)⟩, hs2, by omega, Grew.trans hb2 (grew_alloc _ _)⟩

set_option maxHeartbeats 1000000 in
theorem newScanner_no (mn mx wn m : Int) (w : World) (h : cutErr mn mx wn ≠ 0) :
    Calls Try.prog 74 #[cutV mn mx wn m] w fun e w' => e = .returned (.tuple #[.pointer none, .int .i64 240]) ∧ Below w.heap.size w w' := by
  have he : cutErr mn mx wn = 240 := by unfold cutErr at h ⊢; split at h <;> simp_all
  have HC := Lib.hid (fun W => check_any mn mx wn m W)
  rw [he] at HC
  clear he h
  unfold cutV at HC ⊢
  go_enter Try.func74, Try.ntmps74
  go_wp2_with fail
  refine (HC.out _).mono ?_
  rintro e w1 ⟨rfl, hb⟩
  go_wp2_with fail
  go_ret2
  exact ⟨rfl, Grew.trans (grew_alloc _ _) hb⟩
end

/- ScanPush:
  chunker.(*scanner).push.
-/
section
set_option linter.unusedVariables false
set_option linter.unusedSimpArgs false
set_option linter.unnecessarySimpa false
open Go.RowKit
attribute [local go_sem ↓] Go.wp_at_zero Go.wp_at_succ

/-- is the chunk complete behind the byte that makes T the bytes up to now and L its length? -/
def stopT (c : CutZ) (T : List Int) (L : Nat) : Bool := stopZ c L (sumZ (lastN c.wn T))

/-- what push leaves: T and L with the new byte -/
def ScanRes (s g : Nat) (c : CutZ) (T : List Int) (L : Nat) (w : World) (e : Ending) (w' : World) : Prop :=
  e = .returned (.bool (stopT c T L)) ∧ Scn w' s g c T (if stopT c T L = true then 0 else L) ∧ Ch (At2 s g) w w'
theorem ScanRes.no {s g : Nat} {c : CutZ} {T : List Int} {L : Nat} {w w' : World} {e : Ending} (h : stopT c T L = false) (he : e = .returned (.bool false)) (hs : Scn w' s g c T L) (hc : Ch (At2 s g) w w') : ScanRes s g c T L w e w' := by
  unfold ScanRes; rw [h]; exact ⟨he, hs, hc⟩
theorem ScanRes.yes {s g : Nat} {c : CutZ} {T : List Int} {L : Nat} {w w' : World} {e : Ending} (h : stopT c T L = true) (he : e = .returned (.bool true)) (hs : Scn w' s g c T 0) (hc : Ch (At2 s g) w w') : ScanRes s g c T L w e w' := by
  unfold ScanRes; rw [h]; exact ⟨he, hs, hc⟩
theorem stopT_eq (mn mx wn : Nat) (mask : Int) (T : List Int) (L : Nat) : stopT ⟨mn, mx, wn, mask⟩ T L = (decide (mn ≤ L) && (decide (mx ≤ L) || maskZ mask (sumZ (lastN wn T)))) := rfl

set_option maxHeartbeats 1000000 in
theorem scanPush_any (s g : Nat) (c : CutZ) (T : List Int) (L : Nat) (b : Int) (w : World) (hS : Scn w s g c T L) (hL : L ≤ 1152921504606846976) (b0 : 0 ≤ b) (b1 : b ≤ 255) :
    Calls Try.prog 75 #[.pointer (some ⟨s, 0, none⟩), .int .u8 b] w (ScanRes s g c (T ++ [b]) (L + 1) w) := by
  obtain ⟨mn, mx, wn, mask⟩ := c
  have hne := hS.ne
  obtain ⟨c0, c1, c3, c4, c5, f5⟩ := hS.cells
  have HP := Lib.hid (fun W (h : Rol W g wn (lastN wn T)) => push_any g wn (lastN wn T) b W h b0 b1)
  simp only [lastN_push] at HP
  have HSt := Lib.hid (stopT_eq mn mx wn mask (T ++ [b]) (L + 1))
  go_enter Try.func75, Try.ntmps75
  go_wp2_with fail
  refine (HP.out _ hS.rol).mono ?_
  rintro e w1 ⟨rfl, hR, hch⟩
  have k1 : Ch (At2 s g) w w1 := hch.mono (fun k _ h => .inr h)
  have hB := hS.blk.ch hch hne
  replace c0 := hch.cell c0 hne
  replace c1 := hch.cell c1 hne
  replace c3 := hch.cell c3 hne
  replace c4 := hch.cell c4 hne
  replace c5 := hch.cell c5 hne
  replace f5 : w1.frozen? _ = _ := (hch.frozenEq (p := ⟨s, 5, none⟩) hS.blk.lt hne).trans f5
  clear hS hch HP
  go_wp2_with fail
  have hB2 := hB.set_ 5 (.int .i64 (↑L + 1))
  have hch2 := (Ch.refl (At s) w1).set_at 5 (.int .i64 (↑L + 1))
  have k2 : Ch (At2 s g) w (w1.setCell ⟨s, 5, none⟩ (.int .i64 (↑L + 1))) := k1.trans (hch2.mono (fun k _ h => .inl h))
  replace hR := hR.ch hch2 (Ne.symm hne)
  generalize w1.setCell ⟨s, 5, none⟩ (.int .i64 (↑L + 1)) = w2 at *
  have hB3 : Blk w2 s 118 (scA ⟨mn, mx, wn, mask⟩ g ((L : Int) + 1)) := hB2
  have hS2 : Scn w2 s g ⟨mn, mx, wn, mask⟩ (T ++ [b]) (L + 1) := ⟨hB3, hR⟩
  clear hB hB2 hB3 hR k1 hch2 c0 c1 c3 c4 c5 f5
  obtain ⟨c0, c1, c3, c4, c5, f5⟩ := hS2.cells
  simp only at c0 c1 c3
  have c5' : w2.cell? ⟨s, 5, none⟩ = some (.int .i64 ((L : Int) + 1)) := c5
  clear c5 c4
  generalize sumZ (lastN wn (T ++ [b])) = sm at *
  by_cases h1 : L + 1 < mn
  · have g1 : decide ((L : Int) + 1 < mn) = true := by simp; omega
    have HSt' := Lib.hid (show stopT ⟨mn, mx, wn, mask⟩ (T ++ [b]) (L + 1) = false by rw [HSt.out, decide_eq_false (by omega)]; rfl)
    clear HSt
    refine wp_region_g 31 (by kernel_rfl) ?_
    refine AllC.head 0 31 (fuel := 1) (by first | exact fun h k => Grew.trans h k | exact fun h k => cls_grew h k) (grew_drew _) (by rfl) (by kernel_rfl) ?_
    simp only [List.take_succ_cons, List.take_zero, List.drop_succ_cons, List.drop_zero]
    repeat (first
      | (refine HeadC.val (by rfl) ?_
         apply Exists.intro
         refine ⟨fun w' hw' => ?_, ?_⟩
         · (have hf_0 := cell_up hw' c0; have hf_1 := cell_up hw' c5'; (go_simp) <;> (try go_ints) <;> with_reducible rfl)
         try simp only [Act.put, List.setIfInBounds_toArray, List.set_cons_zero, List.set_cons_succ])
      | (refine HeadC.shut (by rfl) ?_
         try simp only [Act.put, List.setIfInBounds_toArray, List.set_cons_zero, List.set_cons_succ]))
    refine HeadC.nil ?_
    refine AllC.tail 31 (by rfl) (by kernel_rfl) ?_
    intro wt hwt
    simp only [List.drop_succ_cons, List.drop_zero]
    go_wp2_with fail
    go_ret
    have hg1 : Grew w2 wt := (grew_drew _).trans hwt
    exact ScanRes.no HSt'.out rfl (hS2.of hg1) (k2.next hg1)
  · have g1 : decide ((L : Int) + 1 < mn) = false := by simp; omega
    by_cases h2 : L + 1 < mx
    · have g2 : decide ((L : Int) + 1 < mx) = true := by simp; omega
      by_cases h3 : bits .and .u64 mask sm = 0
      · have g3 : (bits .and .u64 mask sm != 0) = false := by rw [h3]; rfl
        have HSt' := Lib.hid (show stopT ⟨mn, mx, wn, mask⟩ (T ++ [b]) (L + 1) = true by rw [HSt.out, decide_eq_true (by omega)]; unfold maskZ; rw [decide_eq_true h3]; simp)
        clear HSt h3
        refine wp_region_g 31 (by kernel_rfl) ?_
        refine AllC.head 0 31 (fuel := 1) (by first | exact fun h k => Grew.trans h k | exact fun h k => cls_grew h k) (grew_drew _) (by rfl) (by kernel_rfl) ?_
        simp only [List.take_succ_cons, List.take_zero, List.drop_succ_cons, List.drop_zero]
        repeat (first
          | (refine HeadC.val (by rfl) ?_
             apply Exists.intro
             refine ⟨fun w' hw' => ?_, ?_⟩
             · (have hf_0 := cell_up hw' c0; have hf_1 := cell_up hw' c1; have hf_2 := cell_up hw' c3; have hf_3 := cell_up hw' c5'; (go_simp) <;> (try go_ints) <;> with_reducible rfl)
             try simp only [Act.put, List.setIfInBounds_toArray, List.set_cons_zero, List.set_cons_succ])
          | (refine HeadC.shut (by rfl) ?_
             try simp only [Act.put, List.setIfInBounds_toArray, List.set_cons_zero, List.set_cons_succ]))
        refine HeadC.nil ?_
        refine AllC.tail 31 (by rfl) (by kernel_rfl) ?_
        intro wt hwt
        simp only [List.drop_succ_cons, List.drop_zero]
        have hg1 : Grew w2 wt := (grew_drew _).trans hwt
        have hSt := hS2.of hg1
        obtain ⟨_, _, _, _, d5, e5⟩ := hSt.cells
        go_wp2_with fail
        go_ret
        exact ScanRes.yes HSt'.out rfl ⟨hSt.blk.set_ 5 (.int .i64 0), hSt.rol.ch ((Ch.refl (At s) wt).set_at 5 (.int .i64 0)) (Ne.symm hne)⟩ ((k2.next hg1).setCell (p := ⟨s, 5, none⟩) (.inr (.inl rfl)) _)
      · have g3 : (bits .and .u64 mask sm != 0) = true := by rw [bne_iff_ne]; exact h3
        have HSt' := Lib.hid (show stopT ⟨mn, mx, wn, mask⟩ (T ++ [b]) (L + 1) = false by rw [HSt.out, decide_eq_true (by omega)]; unfold maskZ; rw [decide_eq_false h3, decide_eq_false (by omega)]; rfl)
        clear HSt h3
        refine wp_region_g 31 (by kernel_rfl) ?_
        refine AllC.head 0 31 (fuel := 1) (by first | exact fun h k => Grew.trans h k | exact fun h k => cls_grew h k) (grew_drew _) (by rfl) (by kernel_rfl) ?_
        simp only [List.take_succ_cons, List.take_zero, List.drop_succ_cons, List.drop_zero]
        repeat (first
          | (refine HeadC.val (by rfl) ?_
             apply Exists.intro
             refine ⟨fun w' hw' => ?_, ?_⟩
             · (have hf_0 := cell_up hw' c0; have hf_1 := cell_up hw' c1; have hf_2 := cell_up hw' c3; have hf_3 := cell_up hw' c5'; (go_simp) <;> (try go_ints) <;> with_reducible rfl)
             try simp only [Act.put, List.setIfInBounds_toArray, List.set_cons_zero, List.set_cons_succ])
          | (refine HeadC.shut (by rfl) ?_
             try simp only [Act.put, List.setIfInBounds_toArray, List.set_cons_zero, List.set_cons_succ]))
        refine HeadC.nil ?_
        refine AllC.tail 31 (by rfl) (by kernel_rfl) ?_
        intro wt hwt
        simp only [List.drop_succ_cons, List.drop_zero]
        go_wp2_with fail
        go_ret
        have hg1 : Grew w2 wt := (grew_drew _).trans hwt
        exact ScanRes.no HSt'.out rfl (hS2.of hg1) (k2.next hg1)
    · have g2 : decide ((L : Int) + 1 < mx) = false := by simp; omega
      have HSt' := Lib.hid (show stopT ⟨mn, mx, wn, mask⟩ (T ++ [b]) (L + 1) = true by rw [HSt.out, decide_eq_true (by omega), decide_eq_true (by omega)]; rfl)
      clear HSt
      refine wp_region_g 31 (by kernel_rfl) ?_
      refine AllC.head 0 31 (fuel := 1) (by first | exact fun h k => Grew.trans h k | exact fun h k => cls_grew h k) (grew_drew _) (by rfl) (by kernel_rfl) ?_
      simp only [List.take_succ_cons, List.take_zero, List.drop_succ_cons, List.drop_zero]
      repeat (first
        | (refine HeadC.val (by rfl) ?_
           apply Exists.intro
           refine ⟨fun w' hw' => ?_, ?_⟩
           · (have hf_0 := cell_up hw' c0; have hf_1 := cell_up hw' c1; have hf_2 := cell_up hw' c5'; (go_simp) <;> (try go_ints) <;> with_reducible rfl)
           try simp only [Act.put, List.setIfInBounds_toArray, List.set_cons_zero, List.set_cons_succ])
        | (refine HeadC.shut (by rfl) ?_
           try simp only [Act.put, List.setIfInBounds_toArray, List.set_cons_zero, List.set_cons_succ]))
      refine HeadC.nil ?_
      refine AllC.tail 31 (by rfl) (by kernel_rfl) ?_
      intro wt hwt
      simp only [List.drop_succ_cons, List.drop_zero]
      have hg1 : Grew w2 wt := (grew_drew _).trans hwt
      have hSt := hS2.of hg1
      obtain ⟨_, _, _, _, d5, e5⟩ := hSt.cells
      go_wp2_with fail
      go_ret
      exact ScanRes.yes HSt'.out rfl ⟨hSt.blk.set_ 5 (.int .i64 0), hSt.rol.ch ((Ch.refl (At s) wt).set_at 5 (.int .i64 0)) (Ne.symm hne)⟩ ((k2.next hg1).setCell (p := ⟨s, 5, none⟩) (.inr (.inl rfl)) _)
end

end Go.Proofs.Ytnjhipnfhapngaa
