/-
  fingerprint.Join, Rest and the reference's Join, Rest: what they return for all IDs.
-/
import Derived.Test.YtadldlijmnohhaaPower
import Derived.IntWalk
namespace Go.Proofs.Ytadldlijmnohhaa
set_option linter.unusedVariables false
set_option linter.unusedSimpArgs false
set_option linter.unnecessarySimpa false
open Go.RowKit
attribute [local go_sem ↓] Go.wp_at_zero Go.wp_at_succ

/-- three numbers as an ID and an error -/
def idErr (r : Int × Int × Int) : Value := .tuple #[.agg #[.int .u64 r.1, .int .i64 r.2.1], .int .i64 r.2.2]
/-- the three numbers that Join returns -/
def joinR (a b c d : Int) : Int × Int × Int :=
  if vldB a b = true ∧ vldB c d = true then (if b + d > 1048576 then (0, 0, 221) else (fadd (fmul a (powI d)) c, b + d, 0)) else (0, 0, 220)
theorem joinR_no {a b c d : Int} (h : ¬ (vldB a b = true ∧ vldB c d = true)) : joinR a b c d = (0, 0, 220) := by unfold joinR; rw [if_neg h]
theorem joinR_big {a b c d : Int} (h1 : vldB a b = true) (h2 : vldB c d = true) (h : b + d > 1048576) : joinR a b c d = (0, 0, 221) := by unfold joinR; rw [if_pos ⟨h1, h2⟩, if_pos h]
theorem joinR_ok {a b c d : Int} (h1 : vldB a b = true) (h2 : vldB c d = true) (h : b + d ≤ 1048576) : joinR a b c d = (fadd (fmul a (powI d)) c, b + d, 0) := by
  unfold joinR; rw [if_pos ⟨h1, h2⟩, if_neg (by omega)]

set_option maxHeartbeats 1000000 in
theorem join_any (a b c d : Int) (a0 : 0 ≤ a) (c0 : 0 ≤ c) (b2 : -9223372036854775808 ≤ b) (d2 : -9223372036854775808 ≤ d) (w : World) :
    Calls Try.prog 26 #[.agg #[.int .u64 a, .int .i64 b], .agg #[.int .u64 c, .int .i64 d]] w fun e w' => e = .returned (idErr (joinR a b c d)) ∧ Below w.heap.size w w' := by
  have key : ∀ r : Int × Int × Int, Hid (joinR a b c d = r) → idErr r = idErr (joinR a b c d) := fun r h => by rw [h.out]
  have Key := Lib.hid key
  clear key
  by_cases h1 : vldB a b = true
  · by_cases h2 : vldB c d = true
    · obtain ⟨b0, b1, a1, _⟩ := vldB_iff.1 h1
      obtain ⟨d0, d1, c1, _⟩ := vldB_iff.1 h2
      by_cases h3 : 1048576 < b + d
      · have HE := Lib.hid (joinR_big h1 h2 h3)
        go_enter Try.func26, Try.ntmps26
        go_wp2_with fail
        refine (valid_any _ _ _).mono ?_
        rintro e w1 ⟨rfl, hb⟩
        obtain ⟨hc, hf, hs⟩ := bcell' hb rfl
        simp only [World.size_alloc] at hc hf hs
        go_wp2_with fail
        refine (valid_any _ _ _).mono ?_
        rintro e w2 ⟨rfl, hb2⟩
        replace hb := below_then hb hb2
        clear hc hf hs hb2
        obtain ⟨hc, hf, hs⟩ := bcell' hb rfl
        simp only [World.size_alloc] at hc hf hs
        go_wp2_with fail
        refine bodyPost_ret (v := idErr (joinR a b c d)) ?_ rfl ⟨rfl, ?_⟩
        · rw [← Key.out _ HE]
          simp [results, Try.results26, go_sem, idErr, hc]
        · have hbw : Below w.heap.size w w2 := ((((Below.refl _ _).alloc (Nat.le_refl _) _).alloc (by simp) _).alloc (by simp; omega) _).trans (hb.mono (by simp; omega))
          (repeat (first | exact Below.refl _ _ | assumption | refine Below.drew ?_ | refine below_drewN ?_ _ | refine Below.alloc ?_ (by first | omega | (simp; done) | (simp; omega) | (simp [World.setCell]; omega)) _ | refine Below.setCell ?_ (by first | omega | (simp; done) | (simp; omega) | (simp [World.setCell]; omega)) _))
      · have HE := Lib.hid (joinR_ok h1 h2 (by omega))
        have hwr : IntKind.i64.wrap (b + d) = b + d := IntWalk.i64_in _ (by omega)
        go_enter Try.func26, Try.ntmps26
        go_wp2_with fail
        refine (valid_any _ _ _).mono ?_
        rintro e w1 ⟨rfl, hb⟩
        obtain ⟨hc, hf, hs⟩ := bcell' hb rfl
        simp only [World.size_alloc] at hc hf hs
        go_wp2_with fail
        refine (valid_any _ _ _).mono ?_
        rintro e w2 ⟨rfl, hb2⟩
        replace hb := below_then hb hb2
        clear hc hf hs hb2
        obtain ⟨hc, hf, hs⟩ := bcell' hb rfl
        simp only [World.size_alloc] at hc hf hs
        have hbw : Below w.heap.size w w2 := ((((Below.refl _ _).alloc (Nat.le_refl _) _).alloc (by simp) _).alloc (by simp; omega) _).trans (hb.mono (by simp; omega))
        have ca0 : w2.cell? ⟨w.heap.size, 0, none⟩ = some (.int .u64 a) := by go_simp
        have ca1 : w2.cell? ⟨w.heap.size, 1, none⟩ = some (.int .i64 b) := by go_simp
        have cc0 : w2.cell? ⟨w.heap.size + 1, 0, none⟩ = some (.int .u64 c) := by go_simp
        have cc1 : w2.cell? ⟨w.heap.size + 1, 1, none⟩ = some (.int .i64 d) := by go_simp
        have cr0 : w2.cell? ⟨w.heap.size + 1 + 1, 0, none⟩ = some (.int .u64 0) := by go_simp
        have cr1 : w2.cell? ⟨w.heap.size + 1 + 1, 1, none⟩ = some (.int .i64 0) := by go_simp
        have fr0 : w2.frozen? ⟨w.heap.size + 1 + 1, 0, none⟩ = false := by go_simp
        have fr1 : w2.frozen? ⟨w.heap.size + 1 + 1, 1, none⟩ = false := by go_simp
        clear hb hc hf
        go_wp2_with fail
        have p1 := powI_fp d
        have m1 := fmul_fp a (powI d)
        go_region_held3 (fun w' => w'.cell? ⟨w.heap.size, 0, none⟩ = some (.int .u64 a) ∧ w'.cell? ⟨w.heap.size, 1, none⟩ = some (.int .i64 b) ∧ w'.cell? ⟨w.heap.size + 1, 0, none⟩ = some (.int .u64 c) ∧ w'.cell? ⟨w.heap.size + 1, 1, none⟩ = some (.int .i64 d) ∧ Below w.heap.size w w')
          (first | assumption | exact ⟨by go_simp, by go_simp, by go_simp, by go_simp, by (repeat (first | exact Below.refl _ _ | assumption | refine Below.drew ?_ | refine below_drewN ?_ _ | refine Below.alloc ?_ (by first | omega | (simp; done) | (simp; omega) | (simp [World.setCell]; omega)) _ | refine Below.setCell ?_ (by first | omega | (simp; done) | (simp; omega) | (simp [World.setCell]; omega)) _))⟩)
          (first | (go_at_call 24; refine (power_any _ _).mono ?_; rintro e wn ⟨rfl, rfl⟩) | (go_at_call 36; refine (multiply_any _ _ (by omega) (by omega) p1.1 p1.2 _).mono ?_; rintro e wn ⟨rfl, rfl⟩) | (go_at_call 35; refine (add_any _ _ m1.1 (by have := m1.2; omega) (by omega) (by omega) _).mono ?_; rintro e wn ⟨rfl, rfl⟩))
        rename_i hH
        go_wp2_with fail
        refine bodyPost_ret (v := idErr (joinR a b c d)) ?_ rfl ⟨rfl, hH.2.2.2.2⟩
        rw [← Key.out _ HE]
        simp [results, Try.results26, go_sem, idErr, cr0, cr1]
    · have HE := Lib.hid (joinR_no (a := a) (b := b) (c := c) (d := d) (fun h => h2 h.2))
      have h2' : vldB c d = false := by simpa using h2
      clear h2
      go_enter Try.func26, Try.ntmps26
      go_wp2_with fail
      refine (valid_any _ _ _).mono ?_
      rintro e w1 ⟨rfl, hb⟩
      obtain ⟨hc, hf, hs⟩ := bcell' hb rfl
      simp only [World.size_alloc] at hc hf hs
      go_wp2_with fail
      refine (valid_any _ _ _).mono ?_
      rintro e w2 ⟨rfl, hb2⟩
      replace hb := below_then hb hb2
      clear hc hf hs hb2
      obtain ⟨hc, hf, hs⟩ := bcell' hb rfl
      simp only [World.size_alloc] at hc hf hs
      go_wp2_with fail
      refine bodyPost_ret (v := idErr (joinR a b c d)) ?_ rfl ⟨rfl, ?_⟩
      · rw [← Key.out _ HE]
        simp [results, Try.results26, go_sem, idErr, hc]
      · have hbw : Below w.heap.size w w2 := ((((Below.refl _ _).alloc (Nat.le_refl _) _).alloc (by simp) _).alloc (by simp; omega) _).trans (hb.mono (by simp; omega))
        (repeat (first | exact Below.refl _ _ | assumption | refine Below.drew ?_ | refine below_drewN ?_ _ | refine Below.alloc ?_ (by first | omega | (simp; done) | (simp; omega) | (simp [World.setCell]; omega)) _ | refine Below.setCell ?_ (by first | omega | (simp; done) | (simp; omega) | (simp [World.setCell]; omega)) _))
  · have HE := Lib.hid (joinR_no (a := a) (b := b) (c := c) (d := d) (fun h => h1 h.1))
    have h1' : vldB a b = false := by simpa using h1
    clear h1
    go_enter Try.func26, Try.ntmps26
    go_wp2_with fail
    refine (valid_any _ _ _).mono ?_
    rintro e w1 ⟨rfl, hb⟩
    obtain ⟨hc, hf, hs⟩ := bcell' hb rfl
    simp only [World.size_alloc] at hc hf hs
    go_wp2_with fail
    refine bodyPost_ret (v := idErr (joinR a b c d)) ?_ rfl ⟨rfl, ?_⟩
    · rw [← Key.out _ HE]
      simp [results, Try.results26, go_sem, idErr, hc]
    · have hbw : Below w.heap.size w w1 := ((((Below.refl _ _).alloc (Nat.le_refl _) _).alloc (by simp) _).alloc (by simp; omega) _).trans (hb.mono (by simp; omega))
      (repeat (first | exact Below.refl _ _ | assumption | refine Below.drew ?_ | refine below_drewN ?_ _ | refine Below.alloc ?_ (by first | omega | (simp; done) | (simp; omega) | (simp [World.setCell]; omega)) _ | refine Below.setCell ?_ (by first | omega | (simp; done) | (simp; omega) | (simp [World.setCell]; omega)) _))

set_option maxHeartbeats 1000000 in
theorem refJoin_any (a b c d : Int) (a0 : 0 ≤ a) (c0 : 0 ≤ c) (b2 : -9223372036854775808 ≤ b) (d2 : -9223372036854775808 ≤ d) (w : World) :
    Calls Try.prog 27 #[.agg #[.int .u64 a, .int .i64 b], .agg #[.int .u64 c, .int .i64 d]] w fun e w' => e = .returned (idErr (joinR a b c d)) ∧ Below w.heap.size w w' := by
  have key : ∀ r : Int × Int × Int, Hid (joinR a b c d = r) → idErr r = idErr (joinR a b c d) := fun r h => by rw [h.out]
  have Key := Lib.hid key
  clear key
  by_cases h1 : vldB a b = true
  · by_cases h2 : vldB c d = true
    · obtain ⟨b0, b1, a1, _⟩ := vldB_iff.1 h1
      obtain ⟨d0, d1, c1, _⟩ := vldB_iff.1 h2
      by_cases h3 : 1048576 < b + d
      · have HE := Lib.hid (joinR_big h1 h2 h3)
        go_enter Try.func27, Try.ntmps27
        go_wp2_with fail
        refine (refValid_any _ _ _).mono ?_
        rintro e w1 ⟨rfl, hb⟩
        obtain ⟨hc, hf, hs⟩ := bcell' hb rfl
        simp only [World.size_alloc] at hc hf hs
        go_wp2_with fail
        refine (refValid_any _ _ _).mono ?_
        rintro e w2 ⟨rfl, hb2⟩
        replace hb := below_then hb hb2
        clear hc hf hs hb2
        obtain ⟨hc, hf, hs⟩ := bcell' hb rfl
        simp only [World.size_alloc] at hc hf hs
        go_wp2_with fail
        refine bodyPost_ret (v := idErr (joinR a b c d)) ?_ rfl ⟨rfl, ?_⟩
        · rw [← Key.out _ HE]
          simp [results, Try.results27, go_sem, idErr, hc]
        · have hbw : Below w.heap.size w w2 := ((((Below.refl _ _).alloc (Nat.le_refl _) _).alloc (by simp) _).alloc (by simp; omega) _).trans (hb.mono (by simp; omega))
          (repeat (first | exact Below.refl _ _ | assumption | refine Below.drew ?_ | refine below_drewN ?_ _ | refine Below.alloc ?_ (by first | omega | (simp; done) | (simp; omega) | (simp [World.setCell]; omega)) _ | refine Below.setCell ?_ (by first | omega | (simp; done) | (simp; omega) | (simp [World.setCell]; omega)) _))
      · have HE := Lib.hid (joinR_ok h1 h2 (by omega))
        have hwr : IntKind.i64.wrap (b + d) = b + d := IntWalk.i64_in _ (by omega)
        go_enter Try.func27, Try.ntmps27
        go_wp2_with fail
        refine (refValid_any _ _ _).mono ?_
        rintro e w1 ⟨rfl, hb⟩
        obtain ⟨hc, hf, hs⟩ := bcell' hb rfl
        simp only [World.size_alloc] at hc hf hs
        go_wp2_with fail
        refine (refValid_any _ _ _).mono ?_
        rintro e w2 ⟨rfl, hb2⟩
        replace hb := below_then hb hb2
        clear hc hf hs hb2
        obtain ⟨hc, hf, hs⟩ := bcell' hb rfl
        simp only [World.size_alloc] at hc hf hs
        have hbw : Below w.heap.size w w2 := ((((Below.refl _ _).alloc (Nat.le_refl _) _).alloc (by simp) _).alloc (by simp; omega) _).trans (hb.mono (by simp; omega))
        have ca0 : w2.cell? ⟨w.heap.size, 0, none⟩ = some (.int .u64 a) := by go_simp
        have ca1 : w2.cell? ⟨w.heap.size, 1, none⟩ = some (.int .i64 b) := by go_simp
        have cc0 : w2.cell? ⟨w.heap.size + 1, 0, none⟩ = some (.int .u64 c) := by go_simp
        have cc1 : w2.cell? ⟨w.heap.size + 1, 1, none⟩ = some (.int .i64 d) := by go_simp
        have cr0 : w2.cell? ⟨w.heap.size + 1 + 1, 0, none⟩ = some (.int .u64 0) := by go_simp
        have cr1 : w2.cell? ⟨w.heap.size + 1 + 1, 1, none⟩ = some (.int .i64 0) := by go_simp
        have fr0 : w2.frozen? ⟨w.heap.size + 1 + 1, 0, none⟩ = false := by go_simp
        have fr1 : w2.frozen? ⟨w.heap.size + 1 + 1, 1, none⟩ = false := by go_simp
        clear hb hc hf
        go_wp2_with fail
        have p1 := powI_fp d
        have m1 := fmul_fp a (powI d)
        go_region_held3 (fun w' => w'.cell? ⟨w.heap.size, 0, none⟩ = some (.int .u64 a) ∧ w'.cell? ⟨w.heap.size, 1, none⟩ = some (.int .i64 b) ∧ w'.cell? ⟨w.heap.size + 1, 0, none⟩ = some (.int .u64 c) ∧ w'.cell? ⟨w.heap.size + 1, 1, none⟩ = some (.int .i64 d) ∧ Below w.heap.size w w')
          (first | assumption | exact ⟨by go_simp, by go_simp, by go_simp, by go_simp, by (repeat (first | exact Below.refl _ _ | assumption | refine Below.drew ?_ | refine below_drewN ?_ _ | refine Below.alloc ?_ (by first | omega | (simp; done) | (simp; omega) | (simp [World.setCell]; omega)) _ | refine Below.setCell ?_ (by first | omega | (simp; done) | (simp; omega) | (simp [World.setCell]; omega)) _))⟩)
          (first | (go_at_call 25; refine (refPower_any _ _).mono ?_; rintro e wn ⟨rfl, rfl⟩) | (go_at_call 38; refine (mul_any _ _ (by omega) (by omega) p1.1 p1.2 _).mono ?_; rintro e wn ⟨rfl, rfl⟩) | (go_at_call 37; refine (plus_any _ _ m1.1 (by have := m1.2; omega) (by omega) (by omega) _).mono ?_; rintro e wn ⟨rfl, rfl⟩))
        rename_i hH
        go_wp2_with fail
        refine bodyPost_ret (v := idErr (joinR a b c d)) ?_ rfl ⟨rfl, hH.2.2.2.2⟩
        rw [← Key.out _ HE]
        simp [results, Try.results27, go_sem, idErr, cr0, cr1]
    · have HE := Lib.hid (joinR_no (a := a) (b := b) (c := c) (d := d) (fun h => h2 h.2))
      have h2' : vldB c d = false := by simpa using h2
      clear h2
      go_enter Try.func27, Try.ntmps27
      go_wp2_with fail
      refine (refValid_any _ _ _).mono ?_
      rintro e w1 ⟨rfl, hb⟩
      obtain ⟨hc, hf, hs⟩ := bcell' hb rfl
      simp only [World.size_alloc] at hc hf hs
      go_wp2_with fail
      refine (refValid_any _ _ _).mono ?_
      rintro e w2 ⟨rfl, hb2⟩
      replace hb := below_then hb hb2
      clear hc hf hs hb2
      obtain ⟨hc, hf, hs⟩ := bcell' hb rfl
      simp only [World.size_alloc] at hc hf hs
      go_wp2_with fail
      refine bodyPost_ret (v := idErr (joinR a b c d)) ?_ rfl ⟨rfl, ?_⟩
      · rw [← Key.out _ HE]
        simp [results, Try.results27, go_sem, idErr, hc]
      · have hbw : Below w.heap.size w w2 := ((((Below.refl _ _).alloc (Nat.le_refl _) _).alloc (by simp) _).alloc (by simp; omega) _).trans (hb.mono (by simp; omega))
        (repeat (first | exact Below.refl _ _ | assumption | refine Below.drew ?_ | refine below_drewN ?_ _ | refine Below.alloc ?_ (by first | omega | (simp; done) | (simp; omega) | (simp [World.setCell]; omega)) _ | refine Below.setCell ?_ (by first | omega | (simp; done) | (simp; omega) | (simp [World.setCell]; omega)) _))
  · have HE := Lib.hid (joinR_no (a := a) (b := b) (c := c) (d := d) (fun h => h1 h.1))
    have h1' : vldB a b = false := by simpa using h1
    clear h1
    go_enter Try.func27, Try.ntmps27
    go_wp2_with fail
    refine (refValid_any _ _ _).mono ?_
    rintro e w1 ⟨rfl, hb⟩
    obtain ⟨hc, hf, hs⟩ := bcell' hb rfl
    simp only [World.size_alloc] at hc hf hs
    go_wp2_with fail
    refine bodyPost_ret (v := idErr (joinR a b c d)) ?_ rfl ⟨rfl, ?_⟩
    · rw [← Key.out _ HE]
      simp [results, Try.results27, go_sem, idErr, hc]
    · have hbw : Below w.heap.size w w1 := ((((Below.refl _ _).alloc (Nat.le_refl _) _).alloc (by simp) _).alloc (by simp; omega) _).trans (hb.mono (by simp; omega))
      (repeat (first | exact Below.refl _ _ | assumption | refine Below.drew ?_ | refine below_drewN ?_ _ | refine Below.alloc ?_ (by first | omega | (simp; done) | (simp; omega) | (simp [World.setCell]; omega)) _ | refine Below.setCell ?_ (by first | omega | (simp; done) | (simp; omega) | (simp [World.setCell]; omega)) _))

end Go.Proofs.Ytadldlijmnohhaa
