/-
  fingerprint.Rest and the reference's Rest: what they return for all IDs.
-/
import Derived.Test.YtadldlijmnohhaaJoin
import Derived.Test.YtadldlijmnohhaaHeldK
import Derived.Deep.DeepCutAuto
namespace Go.Proofs.Ytadldlijmnohhaa
set_option linter.unusedVariables false
set_option linter.unusedSimpArgs false
set_option linter.unnecessarySimpa false
open Go.RowKit
attribute [local go_sem ↓] Go.wp_at_zero Go.wp_at_succ

/-- the fingerprint of what follows -/
def restS (a b c d : Int) : Int := fsub a (fmul c (powI (b - d)))
/-- the three numbers that Rest returns -/
def restR (a b c d : Int) : Int × Int × Int :=
  if vldB a b = true ∧ vldB c d = true then (if b - d < 0 then (0, 0, 221) else if b - d = 0 ∧ restS a b c d ≠ 0 then (0, 0, 220) else (restS a b c d, b - d, 0)) else (0, 0, 220)
theorem restR_no {a b c d : Int} (h : ¬ (vldB a b = true ∧ vldB c d = true)) : restR a b c d = (0, 0, 220) := by unfold restR; rw [if_neg h]
theorem restR_big {a b c d : Int} (h1 : vldB a b = true) (h2 : vldB c d = true) (h : b - d < 0) : restR a b c d = (0, 0, 221) := by unfold restR; rw [if_pos ⟨h1, h2⟩, if_pos h]
theorem restR_bad {a b c d : Int} (h1 : vldB a b = true) (h2 : vldB c d = true) (h0 : b - d = 0) (hs : restS a b c d ≠ 0) : restR a b c d = (0, 0, 220) := by
  unfold restR; rw [if_pos ⟨h1, h2⟩, if_neg (by omega), if_pos ⟨h0, hs⟩]
theorem restR_ok {a b c d : Int} (h1 : vldB a b = true) (h2 : vldB c d = true) (h : ¬ b - d < 0) (h0 : ¬ (b - d = 0 ∧ restS a b c d ≠ 0)) : restR a b c d = (restS a b c d, b - d, 0) := by
  unfold restR; rw [if_pos ⟨h1, h2⟩, if_neg h, if_neg h0]
theorem restS_fp (a b c d : Int) : Fp (restS a b c d) := fsub_fp _ _

set_option maxHeartbeats 2000000 in
theorem rest_any (a b c d : Int) (a0 : 0 ≤ a) (c0 : 0 ≤ c) (b2 : -9223372036854775808 ≤ b) (d2 : -9223372036854775808 ≤ d) (w : World) :
    Calls Try.prog 33 #[.agg #[.int .u64 a, .int .i64 b], .agg #[.int .u64 c, .int .i64 d]] w fun e w' => e = .returned (idErr (restR a b c d)) ∧ Below w.heap.size w w' := by
  have key : ∀ r : Int × Int × Int, Hid (restR a b c d = r) → idErr r = idErr (restR a b c d) := fun r h => by rw [h.out]
  have Key := Lib.hid key
  clear key
  by_cases h1 : vldB a b = true
  · by_cases h2 : vldB c d = true
    · obtain ⟨b0, b1, a1, _⟩ := vldB_iff.1 h1
      obtain ⟨d0, d1, c1, _⟩ := vldB_iff.1 h2
      by_cases h3 : b - d < 0
      · have HE := Lib.hid (restR_big h1 h2 h3)
        go_enter Try.func33, Try.ntmps33
        go_wp2_with fail
        refine (valid_any _ _ _).mono ?_
        rintro e w1 ⟨rfl, hb⟩
        obtain ⟨hc, hf, hs⟩ := bcell' hb rfl
        simp only [World.size_alloc] at hc hf hs
        go_wp2_with fail
        refine (valid_any _ _ _).mono ?_
        rintro e w2 ⟨rfl, hb2⟩
        replace hb := below_then hb hb2
        clear hc hf hs hb2
        obtain ⟨hc, hf, hs⟩ := bcell' hb rfl
        simp only [World.size_alloc] at hc hf hs
        go_wp2_with fail
        refine bodyPost_ret (v := idErr (restR a b c d)) ?_ rfl ⟨rfl, ?_⟩
        · rw [← Key.out _ HE]
          simp [results, Try.results33, go_sem, idErr, hc]
        · have hbw : Below w.heap.size w w2 := ((((Below.refl _ _).alloc (Nat.le_refl _) _).alloc (by simp) _).alloc (by simp; omega) _).trans (hb.mono (by simp; omega))
          (repeat (first | exact Below.refl _ _ | assumption | refine Below.drew ?_ | refine below_drewN ?_ _ | refine Below.alloc ?_ (by first | omega | (simp; done) | (simp; omega) | (simp [World.setCell]; omega)) _ | refine Below.setCell ?_ (by first | omega | (simp; done) | (simp; omega) | (simp [World.setCell]; omega)) _))
      · have f1 := fsub_fp a (fmul c (powI (b - d)))
        have p1 := powI_fp (b - d)
        have m1 := fmul_fp c (powI (b - d))
        go_enter Try.func33, Try.ntmps33
        go_wp2_with fail
        refine (valid_any _ _ _).mono ?_
        rintro e w1 ⟨rfl, hb⟩
        obtain ⟨hc, hf, hs⟩ := bcell' hb rfl
        simp only [World.size_alloc] at hc hf hs
        go_wp2_with fail
        refine (valid_any _ _ _).mono ?_
        rintro e w2 ⟨rfl, hb2⟩
        replace hb := below_then hb hb2
        clear hc hf hs hb2
        obtain ⟨hc, hf, hs⟩ := bcell' hb rfl
        simp only [World.size_alloc] at hc hf hs
        have hbw : Below w.heap.size w w2 := ((((Below.refl _ _).alloc (Nat.le_refl _) _).alloc (by simp) _).alloc (by simp; omega) _).trans (hb.mono (by simp; omega))
        have ca0 : w2.cell? ⟨w.heap.size, 0, none⟩ = some (.int .u64 a) := by go_simp
        have ca1 : w2.cell? ⟨w.heap.size, 1, none⟩ = some (.int .i64 b) := by go_simp
        have cc0 : w2.cell? ⟨w.heap.size + 1, 0, none⟩ = some (.int .u64 c) := by go_simp
        have cc1 : w2.cell? ⟨w.heap.size + 1, 1, none⟩ = some (.int .i64 d) := by go_simp
        have cr0 : w2.cell? ⟨w.heap.size + 1 + 1, 0, none⟩ = some (.int .u64 0) := by go_simp
        have cr1 : w2.cell? ⟨w.heap.size + 1 + 1, 1, none⟩ = some (.int .i64 0) := by go_simp
        have fr0 : w2.frozen? ⟨w.heap.size + 1 + 1, 0, none⟩ = false := by go_simp
        have fr1 : w2.frozen? ⟨w.heap.size + 1 + 1, 1, none⟩ = false := by go_simp
        clear hb hc hf
        go_wp2_with fail
        have H0 : w2.cell? ⟨w.heap.size, 0, none⟩ = some (.int .u64 a) ∧ w2.cell? ⟨w.heap.size, 1, none⟩ = some (.int .i64 b) ∧ w2.cell? ⟨w.heap.size + 1, 0, none⟩ = some (.int .u64 c) ∧ w2.cell? ⟨w.heap.size + 1, 1, none⟩ = some (.int .i64 d) ∧ Below w.heap.size w w2 ∧ w.heap.size + 1 + 1 + 1 ≤ w2.heap.size := ⟨ca0, ca1, cc0, cc1, hbw, hs⟩
        go_cut [7] (fun r wx => r = .pointer (some ⟨w2.heap.size, 0, none⟩) ∧ (w2.alloc (.cells #[.int .u64 (fsub a (fmul c (powI (b - d)))), .int .i64 (b - d)] 24)).drew = wx)
        case first =>
          go_region_held3 (fun w' => w'.cell? ⟨w.heap.size, 0, none⟩ = some (.int .u64 a) ∧ w'.cell? ⟨w.heap.size, 1, none⟩ = some (.int .i64 b) ∧ w'.cell? ⟨w.heap.size + 1, 0, none⟩ = some (.int .u64 c) ∧ w'.cell? ⟨w.heap.size + 1, 1, none⟩ = some (.int .i64 d) ∧ Below w.heap.size w w' ∧ w.heap.size + 1 + 1 + 1 ≤ w'.heap.size)
            ((first | (assumption) | (with_reducible exact held4_drew (H0)) | ((with_reducible refine held4_drew (held4_alloc H0 ?_ ?_ ?_ ?_ ?_)) <;> first | assumption | omega | (simp; done) | (simp; omega)) | ((with_reducible refine held4_drew (held4_set H0 ?_ ?_ ?_ ?_ ?_ ?_)) <;> first | assumption | omega | (simp; done) | (simp; omega)) | ((with_reducible refine held4_drew (held4_set (held4_set H0 ?_ ?_ ?_ ?_ ?_ ?_) ?_ ?_ ?_ ?_ ?_ ?_)) <;> first | assumption | omega | (simp; done) | (simp; omega)) | ((with_reducible refine held4_call ?_ ?_ ?_ ?_ ?_ ?_ ?_) <;> first | assumption | omega | (simp; done) | (simp; omega)) | ((with_reducible refine held4_alloc ?_ ?_ ?_ ?_ ?_ ?_) <;> first | assumption | omega | (simp; done) | (simp; omega)) | ((with_reducible refine held4_set ?_ ?_ ?_ ?_ ?_ ?_ ?_) <;> first | assumption | omega | (simp; done) | (simp; omega)) | ((with_reducible refine held4_set (held4_set ?_ ?_ ?_ ?_ ?_ ?_ ?_) ?_ ?_ ?_ ?_ ?_ ?_) <;> first | assumption | omega | (simp; done) | (simp; omega))))
            (first | (go_at_call 24; refine (power_any _ _).mono ?_; rintro e wn ⟨rfl, rfl⟩) | (go_at_call 36; refine (multiply_any _ _ (by omega) (by omega) p1.1 p1.2 _).mono ?_; rintro e wn ⟨rfl, rfl⟩) | (go_at_call 40; refine (subtract_any _ _ a0 a1 m1.1 m1.2 _).mono ?_; rintro e wn ⟨rfl, rfl⟩))
          all_goals (go_wp2_with fail; go_meet; exact ⟨rfl, rfl⟩)
        case rest =>
          obtain ⟨rfl, rfl⟩ := hcut
          have hbA : Below w.heap.size w (w2.alloc (.cells #[.int .u64 (fsub a (fmul c (powI (b - d)))), .int .i64 (b - d)] 24)).drew := ((hbw.alloc (by omega) _).drew)
          have ce0 : (w2.alloc (.cells #[.int .u64 (fsub a (fmul c (powI (b - d)))), .int .i64 (b - d)] 24)).cell? ⟨w2.heap.size, 0, none⟩ = some (.int .u64 (fsub a (fmul c (powI (b - d))))) := by go_simp
          have ce1 : (w2.alloc (.cells #[.int .u64 (fsub a (fmul c (powI (b - d)))), .int .i64 (b - d)] 24)).cell? ⟨w2.heap.size, 1, none⟩ = some (.int .i64 (b - d)) := by go_simp
          have dr0 := (World.cell?_alloc_lt w2 (.cells #[.int .u64 (fsub a (fmul c (powI (b - d)))), .int .i64 (b - d)] 24) ⟨w.heap.size + 1 + 1, 0, none⟩ (by simp; omega)).trans cr0
          have dr1 := (World.cell?_alloc_lt w2 (.cells #[.int .u64 (fsub a (fmul c (powI (b - d)))), .int .i64 (b - d)] 24) ⟨w.heap.size + 1 + 1, 1, none⟩ (by simp; omega)).trans cr1
          have gr0 := (World.frozen?_alloc_old w2 (.cells #[.int .u64 (fsub a (fmul c (powI (b - d)))), .int .i64 (b - d)] 24) ⟨w.heap.size + 1 + 1, 0, none⟩ (by simp; omega)).trans fr0
          have gr1 := (World.frozen?_alloc_old w2 (.cells #[.int .u64 (fsub a (fmul c (powI (b - d)))), .int .i64 (b - d)] 24) ⟨w.heap.size + 1 + 1, 1, none⟩ (by simp; omega)).trans fr1
          clear ca0 ca1 cc0 cc1 cr0 cr1 fr0 fr1
          by_cases h4 : b - d = 0 ∧ restS a b c d ≠ 0
          · have HE := Lib.hid (restR_bad h1 h2 h4.1 h4.2)
            have hv : vldB (fsub a (fmul c (powI (b - d)))) (b - d) = false := vldB_not.2 (fun h => by
              rcases h.2.2.2 with h | h
              · omega
              · exact h4.2 h)
            have hn : ((b - d) == 0) = true := beq_iff_eq.2 h4.1
            have hz : (fsub a (fmul c (powI (b - d))) != 0) = true := by rw [bne_iff_ne]; exact h4.2
            clear h4
            go_wp2_with fail
            refine (valid_any _ _ _).mono ?_
            rintro e w3 ⟨rfl, hb3⟩
            replace ce0 := (hb3.cell (p := ⟨w2.heap.size, 0, none⟩) (by simp)).trans ce0
            replace ce1 := (hb3.cell (p := ⟨w2.heap.size, 1, none⟩) (by simp)).trans ce1
            replace dr0 := (hb3.cell (p := ⟨w.heap.size + 1 + 1, 0, none⟩) (by simp; omega)).trans dr0
            replace dr1 := (hb3.cell (p := ⟨w.heap.size + 1 + 1, 1, none⟩) (by simp; omega)).trans dr1
            replace gr0 := (hb3.frozen (p := ⟨w.heap.size + 1 + 1, 0, none⟩) (by simp; omega)).trans gr0
            replace gr1 := (hb3.frozen (p := ⟨w.heap.size + 1 + 1, 1, none⟩) (by simp; omega)).trans gr1
            have hbw3 : Below w.heap.size w w3 := hbA.trans (hb3.mono (by simp; omega))
            clear hb3 hbA
            go_wp2_with fail
            refine bodyPost_ret (v := idErr (restR a b c d)) ?_ rfl ⟨rfl, ?_⟩
            · rw [← Key.out _ HE]
              simp [results, Try.results33, go_sem, idErr, dr0, dr1]
            · (repeat (first | exact Below.refl _ _ | assumption | refine Below.drew ?_ | refine below_drewN ?_ _ | refine Below.alloc ?_ (by first | omega | (simp; done) | (simp; omega) | (simp [World.setCell]; omega)) _ | refine Below.setCell ?_ (by first | omega | (simp; done) | (simp; omega) | (simp [World.setCell]; omega)) _))
          · by_cases h5 : b - d = 0
            · have h6 : restS a b c d = 0 := Classical.byContradiction fun h => h4 ⟨h5, h⟩
              have HE := Lib.hid (restR_ok h1 h2 (by omega) h4)
              rw [show restS a b c d = fsub a (fmul c (powI (b - d))) from rfl] at HE h6
              have hv : vldB (fsub a (fmul c (powI (b - d)))) (b - d) = true := vldB_iff.2 ⟨by omega, by omega, f1.2, .inr h6⟩
              have hn : ((b - d) == 0) = true := beq_iff_eq.2 h5
              have hz : (fsub a (fmul c (powI (b - d))) != 0) = false := by rw [h6]; rfl
              clear h4 h5 h6
              go_wp2_with fail
              refine (valid_any _ _ _).mono ?_
              rintro e w3 ⟨rfl, hb3⟩
              replace ce0 := (hb3.cell (p := ⟨w2.heap.size, 0, none⟩) (by simp)).trans ce0
              replace ce1 := (hb3.cell (p := ⟨w2.heap.size, 1, none⟩) (by simp)).trans ce1
              replace dr0 := (hb3.cell (p := ⟨w.heap.size + 1 + 1, 0, none⟩) (by simp; omega)).trans dr0
              replace dr1 := (hb3.cell (p := ⟨w.heap.size + 1 + 1, 1, none⟩) (by simp; omega)).trans dr1
              replace gr0 := (hb3.frozen (p := ⟨w.heap.size + 1 + 1, 0, none⟩) (by simp; omega)).trans gr0
              replace gr1 := (hb3.frozen (p := ⟨w.heap.size + 1 + 1, 1, none⟩) (by simp; omega)).trans gr1
              have hbw3 : Below w.heap.size w w3 := hbA.trans (hb3.mono (by simp; omega))
              clear hb3 hbA
              go_wp2_with fail
              refine bodyPost_ret (v := idErr (restR a b c d)) ?_ rfl ⟨rfl, ?_⟩
              · rw [← Key.out _ HE]
                simp [results, Try.results33, go_sem, idErr, dr0, dr1]
              · (repeat (first | exact Below.refl _ _ | assumption | refine Below.drew ?_ | refine below_drewN ?_ _ | refine Below.alloc ?_ (by first | omega | (simp; done) | (simp; omega) | (simp [World.setCell]; omega)) _ | refine Below.setCell ?_ (by first | omega | (simp; done) | (simp; omega) | (simp [World.setCell]; omega)) _))
            · have HE := Lib.hid (restR_ok h1 h2 (by omega) h4)
              rw [show restS a b c d = fsub a (fmul c (powI (b - d))) from rfl] at HE
              have hv : vldB (fsub a (fmul c (powI (b - d)))) (b - d) = true := vldB_iff.2 ⟨by omega, by omega, f1.2, .inl (by omega)⟩
              have hn : ((b - d) == 0) = false := beq_eq_false_iff_ne.2 h5
              clear h4 h5
              go_wp2_with fail
              refine (valid_any _ _ _).mono ?_
              rintro e w3 ⟨rfl, hb3⟩
              replace ce0 := (hb3.cell (p := ⟨w2.heap.size, 0, none⟩) (by simp)).trans ce0
              replace ce1 := (hb3.cell (p := ⟨w2.heap.size, 1, none⟩) (by simp)).trans ce1
              replace dr0 := (hb3.cell (p := ⟨w.heap.size + 1 + 1, 0, none⟩) (by simp; omega)).trans dr0
              replace dr1 := (hb3.cell (p := ⟨w.heap.size + 1 + 1, 1, none⟩) (by simp; omega)).trans dr1
              replace gr0 := (hb3.frozen (p := ⟨w.heap.size + 1 + 1, 0, none⟩) (by simp; omega)).trans gr0
              replace gr1 := (hb3.frozen (p := ⟨w.heap.size + 1 + 1, 1, none⟩) (by simp; omega)).trans gr1
              have hbw3 : Below w.heap.size w w3 := hbA.trans (hb3.mono (by simp; omega))
              clear hb3 hbA
              go_wp2_with fail
              refine bodyPost_ret (v := idErr (restR a b c d)) ?_ rfl ⟨rfl, ?_⟩
              · rw [← Key.out _ HE]
                simp [results, Try.results33, go_sem, idErr, dr0, dr1]
              · (repeat (first | exact Below.refl _ _ | assumption | refine Below.drew ?_ | refine below_drewN ?_ _ | refine Below.alloc ?_ (by first | omega | (simp; done) | (simp; omega) | (simp [World.setCell]; omega)) _ | refine Below.setCell ?_ (by first | omega | (simp; done) | (simp; omega) | (simp [World.setCell]; omega)) _))
    · have HE := Lib.hid (restR_no (a := a) (b := b) (c := c) (d := d) (fun h => h2 h.2))
      have h2' : vldB c d = false := by simpa using h2
      clear h2
      go_enter Try.func33, Try.ntmps33
      go_wp2_with fail
      refine (valid_any _ _ _).mono ?_
      rintro e w1 ⟨rfl, hb⟩
      obtain ⟨hc, hf, hs⟩ := bcell' hb rfl
      simp only [World.size_alloc] at hc hf hs
      go_wp2_with fail
      refine (valid_any _ _ _).mono ?_
      rintro e w2 ⟨rfl, hb2⟩
      replace hb := below_then hb hb2
      clear hc hf hs hb2
      obtain ⟨hc, hf, hs⟩ := bcell' hb rfl
      simp only [World.size_alloc] at hc hf hs
      go_wp2_with fail
      refine bodyPost_ret (v := idErr (restR a b c d)) ?_ rfl ⟨rfl, ?_⟩
      · rw [← Key.out _ HE]
        simp [results, Try.results33, go_sem, idErr, hc]
      · have hbw : Below w.heap.size w w2 := ((((Below.refl _ _).alloc (Nat.le_refl _) _).alloc (by simp) _).alloc (by simp; omega) _).trans (hb.mono (by simp; omega))
        (repeat (first | exact Below.refl _ _ | assumption | refine Below.drew ?_ | refine below_drewN ?_ _ | refine Below.alloc ?_ (by first | omega | (simp; done) | (simp; omega) | (simp [World.setCell]; omega)) _ | refine Below.setCell ?_ (by first | omega | (simp; done) | (simp; omega) | (simp [World.setCell]; omega)) _))
  · have HE := Lib.hid (restR_no (a := a) (b := b) (c := c) (d := d) (fun h => h1 h.1))
    have h1' : vldB a b = false := by simpa using h1
    clear h1
    go_enter Try.func33, Try.ntmps33
    go_wp2_with fail
    refine (valid_any _ _ _).mono ?_
    rintro e w1 ⟨rfl, hb⟩
    obtain ⟨hc, hf, hs⟩ := bcell' hb rfl
    simp only [World.size_alloc] at hc hf hs
    go_wp2_with fail
    refine bodyPost_ret (v := idErr (restR a b c d)) ?_ rfl ⟨rfl, ?_⟩
    · rw [← Key.out _ HE]
      simp [results, Try.results33, go_sem, idErr, hc]
    · have hbw : Below w.heap.size w w1 := ((((Below.refl _ _).alloc (Nat.le_refl _) _).alloc (by simp) _).alloc (by simp; omega) _).trans (hb.mono (by simp; omega))
      (repeat (first | exact Below.refl _ _ | assumption | refine Below.drew ?_ | refine below_drewN ?_ _ | refine Below.alloc ?_ (by first | omega | (simp; done) | (simp; omega) | (simp [World.setCell]; omega)) _ | refine Below.setCell ?_ (by first | omega | (simp; done) | (simp; omega) | (simp [World.setCell]; omega)) _))

set_option maxHeartbeats 2000000 in
theorem refRest_any (a b c d : Int) (a0 : 0 ≤ a) (c0 : 0 ≤ c) (b2 : -9223372036854775808 ≤ b) (d2 : -9223372036854775808 ≤ d) (w : World) :
    Calls Try.prog 34 #[.agg #[.int .u64 a, .int .i64 b], .agg #[.int .u64 c, .int .i64 d]] w fun e w' => e = .returned (idErr (restR a b c d)) ∧ Below w.heap.size w w' := by
  have key : ∀ r : Int × Int × Int, Hid (restR a b c d = r) → idErr r = idErr (restR a b c d) := fun r h => by rw [h.out]
  have Key := Lib.hid key
  clear key
  by_cases h1 : vldB a b = true
  · by_cases h2 : vldB c d = true
    · obtain ⟨b0, b1, a1, _⟩ := vldB_iff.1 h1
      obtain ⟨d0, d1, c1, _⟩ := vldB_iff.1 h2
      by_cases h3 : b - d < 0
      · have HE := Lib.hid (restR_big h1 h2 h3)
        go_enter Try.func34, Try.ntmps34
        go_wp2_with fail
        refine (refValid_any _ _ _).mono ?_
        rintro e w1 ⟨rfl, hb⟩
        obtain ⟨hc, hf, hs⟩ := bcell' hb rfl
        simp only [World.size_alloc] at hc hf hs
        go_wp2_with fail
        refine (refValid_any _ _ _).mono ?_
        rintro e w2 ⟨rfl, hb2⟩
        replace hb := below_then hb hb2
        clear hc hf hs hb2
        obtain ⟨hc, hf, hs⟩ := bcell' hb rfl
        simp only [World.size_alloc] at hc hf hs
        go_wp2_with fail
        refine bodyPost_ret (v := idErr (restR a b c d)) ?_ rfl ⟨rfl, ?_⟩
        · rw [← Key.out _ HE]
          simp [results, Try.results34, go_sem, idErr, hc]
        · have hbw : Below w.heap.size w w2 := ((((Below.refl _ _).alloc (Nat.le_refl _) _).alloc (by simp) _).alloc (by simp; omega) _).trans (hb.mono (by simp; omega))
          (repeat (first | exact Below.refl _ _ | assumption | refine Below.drew ?_ | refine below_drewN ?_ _ | refine Below.alloc ?_ (by first | omega | (simp; done) | (simp; omega) | (simp [World.setCell]; omega)) _ | refine Below.setCell ?_ (by first | omega | (simp; done) | (simp; omega) | (simp [World.setCell]; omega)) _))
      · have f1 := fsub_fp a (fmul c (powI (b - d)))
        have p1 := powI_fp (b - d)
        have m1 := fmul_fp c (powI (b - d))
        go_enter Try.func34, Try.ntmps34
        go_wp2_with fail
        refine (refValid_any _ _ _).mono ?_
        rintro e w1 ⟨rfl, hb⟩
        obtain ⟨hc, hf, hs⟩ := bcell' hb rfl
        simp only [World.size_alloc] at hc hf hs
        go_wp2_with fail
        refine (refValid_any _ _ _).mono ?_
        rintro e w2 ⟨rfl, hb2⟩
        replace hb := below_then hb hb2
        clear hc hf hs hb2
        obtain ⟨hc, hf, hs⟩ := bcell' hb rfl
        simp only [World.size_alloc] at hc hf hs
        have hbw : Below w.heap.size w w2 := ((((Below.refl _ _).alloc (Nat.le_refl _) _).alloc (by simp) _).alloc (by simp; omega) _).trans (hb.mono (by simp; omega))
        have ca0 : w2.cell? ⟨w.heap.size, 0, none⟩ = some (.int .u64 a) := by go_simp
        have ca1 : w2.cell? ⟨w.heap.size, 1, none⟩ = some (.int .i64 b) := by go_simp
        have cc0 : w2.cell? ⟨w.heap.size + 1, 0, none⟩ = some (.int .u64 c) := by go_simp
        have cc1 : w2.cell? ⟨w.heap.size + 1, 1, none⟩ = some (.int .i64 d) := by go_simp
        have cr0 : w2.cell? ⟨w.heap.size + 1 + 1, 0, none⟩ = some (.int .u64 0) := by go_simp
        have cr1 : w2.cell? ⟨w.heap.size + 1 + 1, 1, none⟩ = some (.int .i64 0) := by go_simp
        have fr0 : w2.frozen? ⟨w.heap.size + 1 + 1, 0, none⟩ = false := by go_simp
        have fr1 : w2.frozen? ⟨w.heap.size + 1 + 1, 1, none⟩ = false := by go_simp
        clear hb hc hf
        go_wp2_with fail
        have H0 : w2.cell? ⟨w.heap.size, 0, none⟩ = some (.int .u64 a) ∧ w2.cell? ⟨w.heap.size, 1, none⟩ = some (.int .i64 b) ∧ w2.cell? ⟨w.heap.size + 1, 0, none⟩ = some (.int .u64 c) ∧ w2.cell? ⟨w.heap.size + 1, 1, none⟩ = some (.int .i64 d) ∧ Below w.heap.size w w2 ∧ w.heap.size + 1 + 1 + 1 ≤ w2.heap.size := ⟨ca0, ca1, cc0, cc1, hbw, hs⟩
        go_cut [7] (fun r wx => r = .pointer (some ⟨w2.heap.size, 0, none⟩) ∧ (w2.alloc (.cells #[.int .u64 (fsub a (fmul c (powI (b - d)))), .int .i64 (b - d)] 24)).drew = wx)
        case first =>
          go_region_held3 (fun w' => w'.cell? ⟨w.heap.size, 0, none⟩ = some (.int .u64 a) ∧ w'.cell? ⟨w.heap.size, 1, none⟩ = some (.int .i64 b) ∧ w'.cell? ⟨w.heap.size + 1, 0, none⟩ = some (.int .u64 c) ∧ w'.cell? ⟨w.heap.size + 1, 1, none⟩ = some (.int .i64 d) ∧ Below w.heap.size w w' ∧ w.heap.size + 1 + 1 + 1 ≤ w'.heap.size)
            ((first | (assumption) | (with_reducible exact held4_drew (H0)) | ((with_reducible refine held4_drew (held4_alloc H0 ?_ ?_ ?_ ?_ ?_)) <;> first | assumption | omega | (simp; done) | (simp; omega)) | ((with_reducible refine held4_drew (held4_set H0 ?_ ?_ ?_ ?_ ?_ ?_)) <;> first | assumption | omega | (simp; done) | (simp; omega)) | ((with_reducible refine held4_drew (held4_set (held4_set H0 ?_ ?_ ?_ ?_ ?_ ?_) ?_ ?_ ?_ ?_ ?_ ?_)) <;> first | assumption | omega | (simp; done) | (simp; omega)) | ((with_reducible refine held4_call ?_ ?_ ?_ ?_ ?_ ?_ ?_) <;> first | assumption | omega | (simp; done) | (simp; omega)) | ((with_reducible refine held4_alloc ?_ ?_ ?_ ?_ ?_ ?_) <;> first | assumption | omega | (simp; done) | (simp; omega)) | ((with_reducible refine held4_set ?_ ?_ ?_ ?_ ?_ ?_ ?_) <;> first | assumption | omega | (simp; done) | (simp; omega)) | ((with_reducible refine held4_set (held4_set ?_ ?_ ?_ ?_ ?_ ?_ ?_) ?_ ?_ ?_ ?_ ?_ ?_) <;> first | assumption | omega | (simp; done) | (simp; omega))))
            (first | (go_at_call 25; refine (refPower_any _ _).mono ?_; rintro e wn ⟨rfl, rfl⟩) | (go_at_call 38; refine (mul_any _ _ (by omega) (by omega) p1.1 p1.2 _).mono ?_; rintro e wn ⟨rfl, rfl⟩) | (go_at_call 41; refine (minus_any _ _ a0 a1 m1.1 m1.2 _).mono ?_; rintro e wn ⟨rfl, rfl⟩))
          all_goals (go_wp2_with fail; go_meet; exact ⟨rfl, rfl⟩)
        case rest =>
          obtain ⟨rfl, rfl⟩ := hcut
          have hbA : Below w.heap.size w (w2.alloc (.cells #[.int .u64 (fsub a (fmul c (powI (b - d)))), .int .i64 (b - d)] 24)).drew := ((hbw.alloc (by omega) _).drew)
          have ce0 : (w2.alloc (.cells #[.int .u64 (fsub a (fmul c (powI (b - d)))), .int .i64 (b - d)] 24)).cell? ⟨w2.heap.size, 0, none⟩ = some (.int .u64 (fsub a (fmul c (powI (b - d))))) := by go_simp
          have ce1 : (w2.alloc (.cells #[.int .u64 (fsub a (fmul c (powI (b - d)))), .int .i64 (b - d)] 24)).cell? ⟨w2.heap.size, 1, none⟩ = some (.int .i64 (b - d)) := by go_simp
          have dr0 := (World.cell?_alloc_lt w2 (.cells #[.int .u64 (fsub a (fmul c (powI (b - d)))), .int .i64 (b - d)] 24) ⟨w.heap.size + 1 + 1, 0, none⟩ (by simp; omega)).trans cr0
          have dr1 := (World.cell?_alloc_lt w2 (.cells #[.int .u64 (fsub a (fmul c (powI (b - d)))), .int .i64 (b - d)] 24) ⟨w.heap.size + 1 + 1, 1, none⟩ (by simp; omega)).trans cr1
          have gr0 := (World.frozen?_alloc_old w2 (.cells #[.int .u64 (fsub a (fmul c (powI (b - d)))), .int .i64 (b - d)] 24) ⟨w.heap.size + 1 + 1, 0, none⟩ (by simp; omega)).trans fr0
          have gr1 := (World.frozen?_alloc_old w2 (.cells #[.int .u64 (fsub a (fmul c (powI (b - d)))), .int .i64 (b - d)] 24) ⟨w.heap.size + 1 + 1, 1, none⟩ (by simp; omega)).trans fr1
          clear ca0 ca1 cc0 cc1 cr0 cr1 fr0 fr1
          by_cases h4 : b - d = 0 ∧ restS a b c d ≠ 0
          · have HE := Lib.hid (restR_bad h1 h2 h4.1 h4.2)
            have hv : vldB (fsub a (fmul c (powI (b - d)))) (b - d) = false := vldB_not.2 (fun h => by
              rcases h.2.2.2 with h | h
              · omega
              · exact h4.2 h)
            have hn : ((b - d) == 0) = true := beq_iff_eq.2 h4.1
            have hz : (fsub a (fmul c (powI (b - d))) != 0) = true := by rw [bne_iff_ne]; exact h4.2
            clear h4
            go_wp2_with fail
            refine bodyPost_ret (v := idErr (restR a b c d)) ?_ rfl ⟨rfl, ?_⟩
            · rw [← Key.out _ HE]
              simp [results, Try.results34, go_sem, idErr, dr0, dr1]
            · (repeat (first | exact Below.refl _ _ | assumption | refine Below.drew ?_ | refine below_drewN ?_ _ | refine Below.alloc ?_ (by first | omega | (simp; done) | (simp; omega) | (simp [World.setCell]; omega)) _ | refine Below.setCell ?_ (by first | omega | (simp; done) | (simp; omega) | (simp [World.setCell]; omega)) _))
          · by_cases h5 : b - d = 0
            · have h6 : restS a b c d = 0 := Classical.byContradiction fun h => h4 ⟨h5, h⟩
              have HE := Lib.hid (restR_ok h1 h2 (by omega) h4)
              rw [show restS a b c d = fsub a (fmul c (powI (b - d))) from rfl] at HE h6
              have hv : vldB (fsub a (fmul c (powI (b - d)))) (b - d) = true := vldB_iff.2 ⟨by omega, by omega, f1.2, .inr h6⟩
              have hn : ((b - d) == 0) = true := beq_iff_eq.2 h5
              have hz : (fsub a (fmul c (powI (b - d))) != 0) = false := by rw [h6]; rfl
              clear h4 h5 h6
              go_wp2_with fail
              refine bodyPost_ret (v := idErr (restR a b c d)) ?_ rfl ⟨rfl, ?_⟩
              · rw [← Key.out _ HE]
                simp [results, Try.results34, go_sem, idErr, dr0, dr1]
              · (repeat (first | exact Below.refl _ _ | assumption | refine Below.drew ?_ | refine below_drewN ?_ _ | refine Below.alloc ?_ (by first | omega | (simp; done) | (simp; omega) | (simp [World.setCell]; omega)) _ | refine Below.setCell ?_ (by first | omega | (simp; done) | (simp; omega) | (simp [World.setCell]; omega)) _))
            · have HE := Lib.hid (restR_ok h1 h2 (by omega) h4)
              rw [show restS a b c d = fsub a (fmul c (powI (b - d))) from rfl] at HE
              have hv : vldB (fsub a (fmul c (powI (b - d)))) (b - d) = true := vldB_iff.2 ⟨by omega, by omega, f1.2, .inl (by omega)⟩
              have hn : ((b - d) == 0) = false := beq_eq_false_iff_ne.2 h5
              clear h4 h5
              go_wp2_with fail
              refine bodyPost_ret (v := idErr (restR a b c d)) ?_ rfl ⟨rfl, ?_⟩
              · rw [← Key.out _ HE]
                simp [results, Try.results34, go_sem, idErr, dr0, dr1]
              · (repeat (first | exact Below.refl _ _ | assumption | refine Below.drew ?_ | refine below_drewN ?_ _ | refine Below.alloc ?_ (by first | omega | (simp; done) | (simp; omega) | (simp [World.setCell]; omega)) _ | refine Below.setCell ?_ (by first | omega | (simp; done) | (simp; omega) | (simp [World.setCell]; omega)) _))
    · have HE := Lib.hid (restR_no (a := a) (b := b) (c := c) (d := d) (fun h => h2 h.2))
      have h2' : vldB c d = false := by simpa using h2
      clear h2
      go_enter Try.func34, Try.ntmps34
      go_wp2_with fail
      refine (refValid_any _ _ _).mono ?_
      rintro e w1 ⟨rfl, hb⟩
      obtain ⟨hc, hf, hs⟩ := bcell' hb rfl
      simp only [World.size_alloc] at hc hf hs
      go_wp2_with fail
      refine (refValid_any _ _ _).mono ?_
      rintro e w2 ⟨rfl, hb2⟩
      replace hb := below_then hb hb2
      clear hc hf hs hb2
      obtain ⟨hc, hf, hs⟩ := bcell' hb rfl
      simp only [World.size_alloc] at hc hf hs
      go_wp2_with fail
      refine bodyPost_ret (v := idErr (restR a b c d)) ?_ rfl ⟨rfl, ?_⟩
      · rw [← Key.out _ HE]
        simp [results, Try.results34, go_sem, idErr, hc]
      · have hbw : Below w.heap.size w w2 := ((((Below.refl _ _).alloc (Nat.le_refl _) _).alloc (by simp) _).alloc (by simp; omega) _).trans (hb.mono (by simp; omega))
        (repeat (first | exact Below.refl _ _ | assumption | refine Below.drew ?_ | refine below_drewN ?_ _ | refine Below.alloc ?_ (by first | omega | (simp; done) | (simp; omega) | (simp [World.setCell]; omega)) _ | refine Below.setCell ?_ (by first | omega | (simp; done) | (simp; omega) | (simp [World.setCell]; omega)) _))
  · have HE := Lib.hid (restR_no (a := a) (b := b) (c := c) (d := d) (fun h => h1 h.1))
    have h1' : vldB a b = false := by simpa using h1
    clear h1
    go_enter Try.func34, Try.ntmps34
    go_wp2_with fail
    refine (refValid_any _ _ _).mono ?_
    rintro e w1 ⟨rfl, hb⟩
    obtain ⟨hc, hf, hs⟩ := bcell' hb rfl
    simp only [World.size_alloc] at hc hf hs
    go_wp2_with fail
    refine bodyPost_ret (v := idErr (restR a b c d)) ?_ rfl ⟨rfl, ?_⟩
    · rw [← Key.out _ HE]
      simp [results, Try.results34, go_sem, idErr, hc]
    · have hbw : Below w.heap.size w w1 := ((((Below.refl _ _).alloc (Nat.le_refl _) _).alloc (by simp) _).alloc (by simp; omega) _).trans (hb.mono (by simp; omega))
      (repeat (first | exact Below.refl _ _ | assumption | refine Below.drew ?_ | refine below_drewN ?_ _ | refine Below.alloc ?_ (by first | omega | (simp; done) | (simp; omega) | (simp [World.setCell]; omega)) _ | refine Below.setCell ?_ (by first | omega | (simp; done) | (simp; omega) | (simp [World.setCell]; omega)) _))

end Go.Proofs.Ytadldlijmnohhaa
