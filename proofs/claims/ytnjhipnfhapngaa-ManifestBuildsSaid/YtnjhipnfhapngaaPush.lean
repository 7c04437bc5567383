/-
  rolling.(*Roller).Push.
-/
import Derived.Test.YtnjhipnfhapngaaRoller
import Derived.Test.YtnjhipnfhapngaaRollFp
import Derived.Test.YtnjhipnfhapngaaRegC
namespace Go.Proofs.Ytnjhipnfhapngaa
set_option linter.unusedVariables false
set_option linter.unusedSimpArgs false
set_option linter.unnecessarySimpa false
open Go.RowKit
attribute [local go_sem ↓] Go.wp_at_zero Go.wp_at_succ

/-- what the walk needs of a roller's cells -/
theorem rol_cells {w : World} {g n nx : Nat} {c s p : Int} {ring : List Int} (hB : Blk w g 140 (rolA ring n c nx s p)) (h64 : ring.length = 64) (hnx : nx < 64) :
    w.cell? ⟨g, nx, none⟩ = some (.int .u8 (ring[nx]'(by omega))) ∧
    w.cell? ⟨g, 64, none⟩ = some (.int .i64 n) ∧ w.cell? ⟨g, 65, none⟩ = some (.int .i64 c) ∧ w.cell? ⟨g, 66, none⟩ = some (.int .i64 nx) ∧ w.cell? ⟨g, 67, none⟩ = some (.int .u64 s) ∧ w.cell? ⟨g, 68, none⟩ = some (.int .u64 p) ∧
    w.frozen? ⟨g, nx, none⟩ = false ∧ w.frozen? ⟨g, 65, none⟩ = false ∧ w.frozen? ⟨g, 66, none⟩ = false ∧ w.frozen? ⟨g, 67, none⟩ = false :=
  ⟨(hB.cell nx).trans (rolA_ring h64 hnx), (hB.cell 64).trans (rolA_rest h64 0), (hB.cell 65).trans (rolA_rest h64 1), (hB.cell 66).trans (rolA_rest h64 2), (hB.cell 67).trans (rolA_rest h64 3), (hB.cell 68).trans (rolA_rest h64 4),
    hB.frozen _, hB.frozen _, hB.frozen _, hB.frozen _⟩

set_option maxHeartbeats 1000000 in
theorem push_lt (g n : Nat) (ws : List Int) (b : Int) (w : World) (hR : Rol w g n ws) (hl : ws.length < n) (b0 : 0 ≤ b) (b1 : b ≤ 255) :
    Calls Try.prog 89 #[.pointer (some ⟨g, 0, none⟩), .int .u8 b] w fun e w' => e = .returned (.int .u64 (sumZ (pushW n ws b))) ∧ Rol w' g n (pushW n ws b) ∧ Ch (At g) w w' := by
  obtain ⟨ring, nx, hB, hr⟩ := hR.ex
  have h64 := hr.len
  have hnx := hr.next
  have hhi := hr.hi
  have hlo := hr.lo
  obtain ⟨c, c64, c65, c66, c67, c68, fn, f65, f66, f67⟩ := rol_cells hB h64 (by omega)
  have hne : ((ws.length : Int) == (n : Int)) = false := beq_eq_false_iff_ne.2 (by omega)
  have i0 : (0 : Int) ≤ (nx : Int) := by omega
  have i1 : (nx : Int) < 64 := by omega
  have n1 : nx ≠ 64 := by omega
  have n2 : nx ≠ 65 := by omega
  have n3 : nx ≠ 66 := by omega
  have n4 : nx ≠ 67 := by omega
  have s0 := (sumZ_fp ws).1
  have s1 := (sumZ_fp ws).2
  have m0 := fmul_lo (sumZ ws) 747382712868975713
  have m1 := fmul_hi (sumZ ws) 747382712868975713
  have HB := Lib.hid hB
  clear hB
  go_enter Try.func89, Try.ntmps89
  go_wp2_with fail
  go_quiet (fail)
  go_wp2_with fail
  have hB1 := (HB.out.drewN nq).set_ 65 (.int .i64 (↑ws.length + 1))
  rw [rolA_setC h64] at hB1
  have k1 := ((Ch.refl (At g) w).drewN nq).set_at 65 (.int .i64 (↑ws.length + 1))
  generalize (w.drewN nq).setCell ⟨g, 65, none⟩ (.int .i64 (↑ws.length + 1)) = w1 at *
  clear c c64 c65 c66 c67 c68 fn f65 f66 f67 HB
  obtain ⟨c, c64, c65, c66, c67, c68, fn, f65, f66, f67⟩ := rol_cells hB1 h64 (by omega)
  -- the byte goes into the ring
  refine wp_region_g 9 (by kernel_rfl) ?_
  refine AllC.head 0 9 (fuel := 1) (by first | exact fun h k => Grew.trans h k | exact fun h k => cls_grew h k) (grew_drew _) (by rfl) (by kernel_rfl) ?_
  simp only [List.take_succ_cons, List.take_zero, List.drop_succ_cons, List.drop_zero]
  repeat (first
    | (refine HeadC.val (by rfl) ?_
       apply Exists.intro
       refine ⟨fun w' hw' => ?_, ?_⟩
       · (have hf_0 := cell_up hw' c66; (go_simp) <;> (try go_ints) <;> with_reducible rfl)
       try simp only [Act.put, List.setIfInBounds_toArray, List.set_cons_zero, List.set_cons_succ])
    | (refine HeadC.shut (by rfl) ?_
       try simp only [Act.put, List.setIfInBounds_toArray, List.set_cons_zero, List.set_cons_succ]))
  refine HeadC.nil ?_
  refine AllC.tail 9 (by rfl) (by kernel_rfl) ?_
  intro wt hwt
  simp only [List.drop_succ_cons, List.drop_zero]
  have hg1 : Grew w1 wt := (grew_drew _).trans hwt
  replace hB1 := hB1.of hg1
  replace k1 := k1.next hg1
  clear hg1 hwt c c64 c65 c66 c67 c68 fn f65 f66 f67 w1
  obtain ⟨c, c64, c65, c66, c67, c68, fn, f65, f66, f67⟩ := rol_cells hB1 h64 (by omega)
  go_wp2_with fail
  have hB2 := hB1.set_ nx (.int .u8 b)
  rw [rolA_setRing h64 (by omega)] at hB2
  have k2 := k1.set_at nx (.int .u8 b)
  have h64' : (ring.set nx b).length = 64 := by simpa using h64
  generalize wt.setCell ⟨g, nx, none⟩ (.int .u8 b) = w2 at *
  clear hB1 k1 c c64 c65 c66 c67 c68 fn f65 f66 f67
  obtain ⟨c, c64, c65, c66, c67, c68, fn, f65, f66, f67⟩ := rol_cells hB2 h64' (by omega)
  clear c
  -- the next place
  have HQ := Lib.hid (show ((nx : Int) + 1) % n = (((nx + 1) % n : Nat) : Int) by rw [Int.natCast_emod, Int.natCast_add]; rfl)
  have q0 : n ≠ 0 := by omega
  have q1 : (n : Int) ≠ 0 := by omega
  refine wp_region_g 13 (by kernel_rfl) ?_
  refine AllC.head 0 13 (fuel := 1) (by first | exact fun h k => Grew.trans h k | exact fun h k => cls_grew h k) (grew_drew _) (by rfl) (by kernel_rfl) ?_
  simp only [List.take_succ_cons, List.take_zero, List.drop_succ_cons, List.drop_zero]
  repeat (first
    | (refine HeadC.val (by rfl) ?_
       apply Exists.intro
       refine ⟨fun w' hw' => ?_, ?_⟩
       · (have hf_0 := cell_up hw' c66; have hf_1 := cell_up hw' c64; (go_simp) <;> (try go_ints) <;> with_reducible rfl)
       try simp only [Act.put, List.setIfInBounds_toArray, List.set_cons_zero, List.set_cons_succ])
    | (refine HeadC.shut (by rfl) ?_
       try simp only [Act.put, List.setIfInBounds_toArray, List.set_cons_zero, List.set_cons_succ]))
  refine HeadC.nil ?_
  refine AllC.tail 13 (by rfl) (by kernel_rfl) ?_
  intro wt hwt
  simp only [List.drop_succ_cons, List.drop_zero]
  have hg1 : Grew w2 wt := (grew_drew _).trans hwt
  replace hB2 := hB2.of hg1
  replace k2 := k2.next hg1
  clear hg1 hwt c64 c65 c66 c67 c68 fn f65 f66 f67 w2
  obtain ⟨c, c64, c65, c66, c67, c68, fn, f65, f66, f67⟩ := rol_cells hB2 h64' (by omega)
  go_wp2_with fail
  refine (rMultiply_any _ _ s0 s1 (by omega) (by omega) _).mono ?_
  rintro e w' ⟨rfl, rfl⟩
  go_wp2_with fail
  refine (rAdd_any _ _ m0 m1 (by omega) (by omega) _).mono ?_
  rintro e w' ⟨rfl, rfl⟩
  have HV := Lib.hid (show fadd (fmul (sumZ ws) 747382712868975713) (b + 1) = sumZ (pushW n ws b) by rw [pushW_lt hl, sumZ_snoc]; rfl)
  rw [HV.out]
  go_wp2_with fail
  go_ret
  refine ⟨ret_u64 rfl, ⟨ring.set nx b, (nx + 1) % n, ?_, hr.push_lt hl b0 b1⟩, (k2.set_at 66 _).set_at 67 _⟩
  have hB3 := (hB2.set_ 66 (.int .i64 (((nx : Int) + 1) % n))).set_ 67 (.int .u64 (sumZ (pushW n ws b)))
  rw [rolA_setN h64', rolA_setS h64', HQ.out] at hB3
  rw [HQ.out, show ((pushW n ws b).length : Int) = (ws.length : Int) + 1 by rw [pushW_len_lt hl]; omega]
  exact hB3

set_option maxHeartbeats 1000000 in
theorem push_ge (g n : Nat) (z : Int) (t : List Int) (b : Int) (w : World) (hR : Rol w g n (z :: t)) (hl : t.length + 1 = n) (b0 : 0 ≤ b) (b1 : b ≤ 255) :
    Calls Try.prog 89 #[.pointer (some ⟨g, 0, none⟩), .int .u8 b] w fun e w' => e = .returned (.int .u64 (sumZ (pushW n (z :: t) b))) ∧ Rol w' g n (pushW n (z :: t) b) ∧ Ch (At g) w w' := by
  obtain ⟨ring, nx, hB, hr⟩ := hR.ex
  have hll : (z :: t).length = n := by simpa using hl
  have h64 := hr.len
  have hnx := hr.next
  have hhi := hr.hi
  have hlo := hr.lo
  have ho := hr.oldest hll
  have hzb := hr.elem z (by simp)
  have z0 := hzb.1
  have z1 := hzb.2
  clear hzb
  obtain ⟨c, c64, c65, c66, c67, c68, fn, f65, f66, f67⟩ := rol_cells hB h64 (by omega)
  have hrz : ring[nx]'(by omega) = z := by
    rw [List.getElem?_eq_getElem (by omega)] at ho
    simpa using ho
  rw [hrz] at c
  have HL := Lib.hid hll
  have HSD := Lib.hid (show fsub (sumZ (z :: t)) (fmul (z + 1) (powZ (n - 1))) = sumZ t by
    have h := sumZ_drop t z0 z1
    rw [show n - 1 = t.length by omega]; exact h)
  have hne : (((z :: t).length : Int) == (n : Int)) = true := beq_iff_eq.2 (by omega)
  have p0 := (powZ_fp (n - 1)).1
  have p1 := (powZ_fp (n - 1)).2
  have i0 : (0 : Int) ≤ (nx : Int) := by omega
  have i1 : (nx : Int) < 64 := by omega
  have n1 : nx ≠ 64 := by omega
  have n2 : nx ≠ 65 := by omega
  have n3 : nx ≠ 66 := by omega
  have n4 : nx ≠ 67 := by omega
  have s0' := (sumZ_fp (z :: t)).1
  have s1' := (sumZ_fp (z :: t)).2
  have s0 := (sumZ_fp t).1
  have s1 := (sumZ_fp t).2
  have m0 := fmul_lo (sumZ t) 747382712868975713
  have m1 := fmul_hi (sumZ t) 747382712868975713
  have v0 := fmul_lo (z + 1) (powZ (n - 1))
  have v1 := fmul_hi (z + 1) (powZ (n - 1))
  have HS := Lib.hid (fsub_neg (a := sumZ (z :: t)) (b := fmul (z + 1) (powZ (n - 1))))
  have HB := Lib.hid hB
  clear hB ho hrz hl hll
  generalize hws : z :: t = ws at *
  have HWS := Lib.hid hws
  clear hws
  generalize hpw : powZ (n - 1) = pw at *
  have HPW := Lib.hid hpw
  clear hpw
  go_enter Try.func89, Try.ntmps89
  go_wp2_with fail
  go_quiet (fail)
  go_wp2_with fail
  refine wp_region_g 16 (by kernel_rfl) ?_
  refine AllC.head 0 16 (fuel := 1) (by first | exact fun h k => Grew.trans h k | exact fun h k => cls_grew h k) (grew_drew _) (by rfl) (by kernel_rfl) ?_
  simp only [List.take_succ_cons, List.take_zero, List.drop_succ_cons, List.drop_zero]
  repeat (first
    | (refine HeadC.val (by rfl) ?_
       apply Exists.intro
       refine ⟨fun w' hw' => ?_, ?_⟩
       · (have hf_0 := cell_up hw' (show (w.drewN nq).cell? _ = _ from c66); have hf_1 := cell_up hw' (show (w.drewN nq).cell? _ = _ from c); have hf_2 := cell_up hw' (show (w.drewN nq).cell? _ = _ from c68); (go_simp) <;> (try go_ints) <;> with_reducible rfl)
       try simp only [Act.put, List.setIfInBounds_toArray, List.set_cons_zero, List.set_cons_succ])
    | (refine HeadC.call (by rfl) ?_
       apply Exists.intro; apply Exists.intro
       refine ⟨fun w' hw' => ?_, ?_⟩
       · (have hf_0 := cell_up hw' (show (w.drewN nq).cell? _ = _ from c66); have hf_1 := cell_up hw' (show (w.drewN nq).cell? _ = _ from c); have hf_2 := cell_up hw' (show (w.drewN nq).cell? _ = _ from c68); (go_simp) <;> first | (refine ⟨?_, ?_⟩ <;> with_reducible rfl) | with_reducible rfl)
       apply Exists.intro
       refine ⟨fun w' hw' => ?_, ?_⟩
       · (first | exact grew_same (rMultiply_any _ _ (by omega) (by omega) p0 p1 _))
       try simp only [Act.put, List.setIfInBounds_toArray, List.set_cons_zero, List.set_cons_succ])
    | (refine HeadC.shut (by rfl) ?_
       try simp only [Act.put, List.setIfInBounds_toArray, List.set_cons_zero, List.set_cons_succ]))
  refine HeadC.nil ?_
  refine AllC.tail 16 (by rfl) (by kernel_rfl) ?_
  intro wt hwt
  simp only [List.drop_succ_cons, List.drop_zero]
  have hg1 : Grew w wt := (grew_drawn ⟨nq, rfl⟩).trans ((grew_drew _).trans hwt)
  replace HB := Lib.hid (HB.out.of hg1)
  have k0 := (Ch.refl (At g) w).next hg1
  clear hg1 hwt c c64 c65 c66 c67 c68 fn f65 f66 f67
  obtain ⟨c, c64, c65, c66, c67, c68, fn, f65, f66, f67⟩ := rol_cells HB.out h64 (by omega)
  go_wp2_with fail
  refine (rAdd_any _ _ s0' s1' (by omega) (by omega) _).mono ?_
  rintro e w' ⟨rfl, rfl⟩
  rw [HS.out, HSD.out]
  go_wp2_with fail
  have hB1 := HB.out.set_ 67 (.int .u64 (sumZ t))
  rw [rolA_setS h64] at hB1
  have k1 := k0.set_at 67 (.int .u64 (sumZ t))
  generalize wt.setCell ⟨g, 67, none⟩ (.int .u64 (sumZ t)) = w1 at *
  clear c c64 c65 c66 c67 c68 fn f65 f66 f67 HB
  obtain ⟨c, c64, c65, c66, c67, c68, fn, f65, f66, f67⟩ := rol_cells hB1 h64 (by omega)
  -- the byte goes into the ring
  refine wp_region_g 9 (by kernel_rfl) ?_
  refine AllC.head 0 9 (fuel := 1) (by first | exact fun h k => Grew.trans h k | exact fun h k => cls_grew h k) (grew_drew _) (by rfl) (by kernel_rfl) ?_
  simp only [List.take_succ_cons, List.take_zero, List.drop_succ_cons, List.drop_zero]
  repeat (first
    | (refine HeadC.val (by rfl) ?_
       apply Exists.intro
       refine ⟨fun w' hw' => ?_, ?_⟩
       · (have hf_0 := cell_up hw' c66; (go_simp) <;> (try go_ints) <;> with_reducible rfl)
       try simp only [Act.put, List.setIfInBounds_toArray, List.set_cons_zero, List.set_cons_succ])
    | (refine HeadC.shut (by rfl) ?_
       try simp only [Act.put, List.setIfInBounds_toArray, List.set_cons_zero, List.set_cons_succ]))
  refine HeadC.nil ?_
  refine AllC.tail 9 (by rfl) (by kernel_rfl) ?_
  intro wt hwt
  simp only [List.drop_succ_cons, List.drop_zero]
  have hg1 : Grew w1 wt := (grew_drew _).trans hwt
  replace hB1 := hB1.of hg1
  replace k1 := k1.next hg1
  clear hg1 hwt c c64 c65 c66 c67 c68 fn f65 f66 f67 w1
  obtain ⟨c, c64, c65, c66, c67, c68, fn, f65, f66, f67⟩ := rol_cells hB1 h64 (by omega)
  go_wp2_with fail
  have hB2 := hB1.set_ nx (.int .u8 b)
  rw [rolA_setRing h64 (by omega)] at hB2
  have k2 := k1.set_at nx (.int .u8 b)
  have h64' : (ring.set nx b).length = 64 := by simpa using h64
  generalize wt.setCell ⟨g, nx, none⟩ (.int .u8 b) = w2 at *
  clear hB1 k1 c c64 c65 c66 c67 c68 fn f65 f66 f67
  obtain ⟨c, c64, c65, c66, c67, c68, fn, f65, f66, f67⟩ := rol_cells hB2 h64' (by omega)
  clear c
  -- the next place
  have HQ := Lib.hid (show ((nx : Int) + 1) % n = (((nx + 1) % n : Nat) : Int) by rw [Int.natCast_emod, Int.natCast_add]; rfl)
  have q0 : n ≠ 0 := by omega
  have q1 : (n : Int) ≠ 0 := by omega
  refine wp_region_g 13 (by kernel_rfl) ?_
  refine AllC.head 0 13 (fuel := 1) (by first | exact fun h k => Grew.trans h k | exact fun h k => cls_grew h k) (grew_drew _) (by rfl) (by kernel_rfl) ?_
  simp only [List.take_succ_cons, List.take_zero, List.drop_succ_cons, List.drop_zero]
  repeat (first
    | (refine HeadC.val (by rfl) ?_
       apply Exists.intro
       refine ⟨fun w' hw' => ?_, ?_⟩
       · (have hf_0 := cell_up hw' c66; have hf_1 := cell_up hw' c64; (go_simp) <;> (try go_ints) <;> with_reducible rfl)
       try simp only [Act.put, List.setIfInBounds_toArray, List.set_cons_zero, List.set_cons_succ])
    | (refine HeadC.shut (by rfl) ?_
       try simp only [Act.put, List.setIfInBounds_toArray, List.set_cons_zero, List.set_cons_succ]))
  refine HeadC.nil ?_
  refine AllC.tail 13 (by rfl) (by kernel_rfl) ?_
  intro wt hwt
  simp only [List.drop_succ_cons, List.drop_zero]
  have hg1 : Grew w2 wt := (grew_drew _).trans hwt
  replace hB2 := hB2.of hg1
  replace k2 := k2.next hg1
  clear hg1 hwt c64 c65 c66 c67 c68 fn f65 f66 f67 w2
  obtain ⟨c, c64, c65, c66, c67, c68, fn, f65, f66, f67⟩ := rol_cells hB2 h64' (by omega)
  go_wp2_with fail
  refine (rMultiply_any _ _ s0 s1 (by omega) (by omega) _).mono ?_
  rintro e w' ⟨rfl, rfl⟩
  go_wp2_with fail
  refine (rAdd_any _ _ m0 m1 (by omega) (by omega) _).mono ?_
  rintro e w' ⟨rfl, rfl⟩
  have HV := Lib.hid (show fadd (fmul (sumZ t) 747382712868975713) (b + 1) = sumZ (pushW n ws b) by have h := HL.out; rw [← HWS.out] at h ⊢; rw [pushW_ge (by omega)]; show _ = sumZ (t ++ [b]); rw [sumZ_snoc]; rfl)
  rw [HV.out]
  go_wp2_with fail
  go_ret
  refine ⟨ret_u64 rfl, ⟨ring.set nx b, (nx + 1) % n, ?_, hr.push_ge HL.out b0 b1⟩, (k2.set_at 66 _).set_at 67 _⟩
  have hB3 := (hB2.set_ 66 (.int .i64 (((nx : Int) + 1) % n))).set_ 67 (.int .u64 (sumZ (pushW n ws b)))
  rw [rolA_setN h64', rolA_setS h64', HQ.out] at hB3
  rw [HQ.out, show ((pushW n ws b).length : Int) = (ws.length : Int) by rw [pushW_len_ge (by have := HL.out; omega)], HPW.out]
  exact hB3


theorem push_any (g n : Nat) (ws : List Int) (b : Int) (w : World) (hR : Rol w g n ws) (b0 : 0 ≤ b) (b1 : b ≤ 255) :
    Calls Try.prog 89 #[.pointer (some ⟨g, 0, none⟩), .int .u8 b] w fun e w' => e = .returned (.int .u64 (sumZ (pushW n ws b))) ∧ Rol w' g n (pushW n ws b) ∧ Ch (At g) w w' := by
  rcases Nat.lt_or_ge ws.length n with h | h
  · exact push_lt g n ws b w hR h b0 b1
  · have h1 := hR.le
    match ws, h, h1, hR with
    | [], h, h1, _ => simp at h; omega
    | z :: t, h, h1, hR => exact push_ge g n z t b w hR (by simp at h h1; omega) b0 b1

end Go.Proofs.Ytnjhipnfhapngaa
