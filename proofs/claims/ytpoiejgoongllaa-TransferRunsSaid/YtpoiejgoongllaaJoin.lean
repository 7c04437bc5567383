/-
  Power, Join, JoinLaws.
-/
import Derived.Test.YtpoiejgoongllaaLen
import Derived.Test.YtpoiejgoongllaaCutMath
import Derived.Test.YtpoiejgoongllaaReg0
import Derived.Laws.BitsAllLaws
import Derived.IntWalk
namespace Go.Proofs.Ytpoiejgoongllaa
/- Power:
  fingerprint.Power and the reference's Power.
-/
section
set_option linter.unusedVariables false
set_option linter.unusedSimpArgs false
set_option linter.unnecessarySimpa false
open Go.RowKit

theorem odd_bit (m : Nat) (h : m < 9223372036854775808) : bits .and .i64 (m : Int) 1 = ((m % 2 : Nat) : Int) := by
  have h1 := (bits_nat .i64 63 (by decide) (fun n h0 h1 => by rw [IntKind.wrap_i64]; omega) m 1 (by omega) (by omega)).1
  rw [Nat.and_one_is_mod] at h1
  exact h1

set_option maxHeartbeats 400000 in
theorem power_in (n : Nat) (w : World) (h1 : n ≤ 1048576) :
    Calls Try.prog 80 #[.int .i64 n] w fun e w' => e = .returned (.int .u64 (powZ n)) ∧ w = w' := by
  have Hl := Lib.hid (lt_bitLen n (by omega))
  have hl := bitLen_le n
  go_enter Try.func80, Try.ntmps80
  go_wp2_with fail
  refine (len_any _ _ (by omega) (by omega)).mono ?_
  rintro e w' ⟨rfl, rfl⟩
  simp only [Int.toNat_natCast]
  generalize Lib.bitLen n = L at *
  go_wp2_with fail
  go_loop [3, 4, 15] (fun o b t => ∃ i : Nat, i ≤ L ∧ t = .int .i64 i ∧ o = .int .u64 (powZ (n % 2 ^ i)) ∧ b = .int .u64 (powZ (2 ^ i))) (fun _ _ t => L - (intOf t).toNat)
  case atStart => exact ⟨0, by omega, by simp, by simp [Nat.mod_one, powZ], by simp [powZ_one]⟩
  case round =>
    obtain ⟨i, hi, rfl, rfl, rfl⟩ := hrel
    have f1 := powZ_fp (2 ^ i)
    have f2 := powZ_fp (n % 2 ^ i)
    have hb := odd_bit (n / 2 ^ i) (by have := Nat.div_le_self n (2 ^ i); omega)
    have hq : ((n / 2 ^ i : Nat) : Int) = (n : Int) / 2 ^ i := by simp
    rw [hq] at hb
    clear hq
    by_cases hlt : i < L
    · rcases Nat.mod_two_eq_zero_or_one (n / 2 ^ i) with hm | hm
      · rw [hm] at hb
        have HM := Lib.hid (powZ_miss n i hm)
        clear hm
        go_wp2_with fail
        refine (multiply_any _ _ f1.1 f1.2 f1.1 f1.2 _).mono ?_
        rintro e w' ⟨rfl, rfl⟩
        rw [powZ_sq]
        go_wp2
        go_round
        case rel => exact ⟨i + 1, by omega, by go_num, by rw [HM.out], rfl⟩
        case measure => simp [intOf]; omega
      · rw [hm] at hb
        have HM := Lib.hid (powZ_hit n i hm)
        clear hm
        go_wp2_with fail
        refine (multiply_any _ _ f2.1 f2.2 f1.1 f1.2 _).mono ?_
        rintro e w' ⟨rfl, rfl⟩
        rw [HM.out]
        go_wp2_with fail
        refine (multiply_any _ _ f1.1 f1.2 f1.1 f1.2 _).mono ?_
        rintro e w' ⟨rfl, rfl⟩
        rw [powZ_sq]
        go_wp2
        go_round
        case rel => exact ⟨i + 1, by omega, by go_num, rfl, rfl⟩
        case measure => simp [intOf]; omega
    · obtain rfl : i = L := by omega
      have e : n % 2 ^ i = n := Nat.mod_eq_of_lt Hl.out
      have HE := Lib.hid e
      clear e
      go_wp2_with fail
      go_ret
      exact ⟨ret_u64 (by rw [HE.out]), rfl⟩

/-- the power, 0 outside the range -/
def powI (n : Int) : Int := if 0 ≤ n ∧ n ≤ 1048576 then powZ n.toNat else 0
theorem powI_in {n : Int} (h0 : 0 ≤ n) (h1 : n ≤ 1048576) : powI n = powZ n.toNat := by unfold powI; rw [if_pos ⟨h0, h1⟩]
theorem powI_fp (n : Int) : Fp (powI n) := by
  unfold powI; split
  · exact powZ_fp _
  · unfold Fp; omega

set_option maxHeartbeats 400000 in
theorem power_any (n : Int) (w : World) :
    Calls Try.prog 80 #[.int .i64 n] w fun e w' => e = .returned (.int .u64 (powI n)) ∧ w = w' := by
  by_cases h : 0 ≤ n ∧ n ≤ 1048576
  · rw [powI_in h.1 h.2]
    obtain ⟨k, rfl⟩ := Int.eq_ofNat_of_zero_le h.1
    exact power_in k w (by omega)
  · have HE := Lib.hid (show 0 = powI n by unfold powI; rw [if_neg h])
    by_cases h0 : n < 0
    · go_enter Try.func80, Try.ntmps80
      go_wp2
      go_ret
      exact ⟨ret_u64 HE.out, rfl⟩
    · have h1 : 1048576 < n := by omega
      clear h
      have h0' : 0 ≤ n := by omega
      clear h0
      go_enter Try.func80, Try.ntmps80
      go_wp2
      go_ret
      exact ⟨ret_u64 HE.out, rfl⟩

end

/- Join:
  fingerprint.Join, Rest and the reference's Join, Rest: what they return for all IDs.
-/
section
set_option linter.unusedVariables false
set_option linter.unusedSimpArgs false
set_option linter.unnecessarySimpa false
open Go.RowKit
attribute [local go_sem ↓] Go.wp_at_zero Go.wp_at_succ

/-- three numbers as an ID and an error -/
def idErr (r : Int × Int × Int) : Value := .tuple #[.agg #[.int .u64 r.1, .int .i64 r.2.1], .int .i64 r.2.2]
/-- the three numbers that Join returns -/
def joinR (a b c d : Int) : Int × Int × Int :=
  if vldB a b = true ∧ vldB c d = true then (if b + d > 1048576 then (0, 0, 221) else (fadd (fmul a (powI d)) c, b + d, 0)) else (0, 0, 220)
theorem joinR_no {a b c d : Int} (h : ¬ (vldB a b = true ∧ vldB c d = true)) : joinR a b c d = (0, 0, 220) := by unfold joinR; rw [if_neg h]
theorem joinR_big {a b c d : Int} (h1 : vldB a b = true) (h2 : vldB c d = true) (h : b + d > 1048576) : joinR a b c d = (0, 0, 221) := by unfold joinR; rw [if_pos ⟨h1, h2⟩, if_pos h]
theorem joinR_ok {a b c d : Int} (h1 : vldB a b = true) (h2 : vldB c d = true) (h : b + d ≤ 1048576) : joinR a b c d = (fadd (fmul a (powI d)) c, b + d, 0) := by
  unfold joinR; rw [if_pos ⟨h1, h2⟩, if_neg (by omega)]

set_option maxHeartbeats 1000000 in
theorem join_any (a b c d : Int) (a0 : 0 ≤ a) (c0 : 0 ≤ c) (b2 : -9223372036854775808 ≤ b) (d2 : -9223372036854775808 ≤ d) (w : World) :
    Calls Try.prog 70 #[.agg #[.int .u64 a, .int .i64 b], .agg #[.int .u64 c, .int .i64 d]] w fun e w' => e = .returned (idErr (joinR a b c d)) ∧ Below w.heap.size w w' := by
  have key : ∀ r : Int × Int × Int, Hid (joinR a b c d = r) → idErr r = idErr (joinR a b c d) := fun r h => by rw [h.out]
  have Key := Lib.hid key
  clear key
  by_cases h1 : vldB a b = true
  · by_cases h2 : vldB c d = true
    · obtain ⟨b0, b1, a1, _⟩ := vldB_iff.1 h1
      obtain ⟨d0, d1, c1, _⟩ := vldB_iff.1 h2
      by_cases h3 : 1048576 < b + d
      · have HE := Lib.hid (joinR_big h1 h2 h3)
        go_enter Try.func70, Try.ntmps70
        go_wp2_with fail
        refine (valid_any _ _ _).mono ?_
        rintro e w1 ⟨rfl, hb⟩
        obtain ⟨hc, hf, hs⟩ := bcell' hb rfl
        simp only [World.size_alloc] at hc hf hs
        go_wp2_with fail
        refine (valid_any _ _ _).mono ?_
        rintro e w2 ⟨rfl, hb2⟩
        replace hb := below_then hb hb2
        clear hc hf hs hb2
        obtain ⟨hc, hf, hs⟩ := bcell' hb rfl
        simp only [World.size_alloc] at hc hf hs
        go_wp2_with fail
        refine bodyPost_ret (v := idErr (joinR a b c d)) ?_ rfl ⟨rfl, ?_⟩
        · rw [← Key.out _ HE]
          simp [results, Try.results70, go_sem, idErr, hc]
        · have hbw : Below w.heap.size w w2 := ((((Below.refl _ _).alloc (Nat.le_refl _) _).alloc (by simp) _).alloc (by simp; omega) _).trans (hb.mono (by simp; omega))
          (repeat (first | exact Below.refl _ _ | assumption | refine Below.drew ?_ | refine below_drewN ?_ _ | refine Below.alloc ?_ (by first | omega | (simp; done) | (simp; omega) | (simp [World.setCell]; omega)) _ | refine Below.setCell ?_ (by first | omega | (simp; done) | (simp; omega) | (simp [World.setCell]; omega)) _))
      · have HE := Lib.hid (joinR_ok h1 h2 (by omega))
        have hwr : IntKind.i64.wrap (b + d) = b + d := IntWalk.i64_in _ (by omega)
        go_enter Try.func70, Try.ntmps70
        go_wp2_with fail
        refine (valid_any _ _ _).mono ?_
        rintro e w1 ⟨rfl, hb⟩
        obtain ⟨hc, hf, hs⟩ := bcell' hb rfl
        simp only [World.size_alloc] at hc hf hs
        go_wp2_with fail
        refine (valid_any _ _ _).mono ?_
        rintro e w2 ⟨rfl, hb2⟩
        replace hb := below_then hb hb2
        clear hc hf hs hb2
        obtain ⟨hc, hf, hs⟩ := bcell' hb rfl
        simp only [World.size_alloc] at hc hf hs
        have hbw : Below w.heap.size w w2 := ((((Below.refl _ _).alloc (Nat.le_refl _) _).alloc (by simp) _).alloc (by simp; omega) _).trans (hb.mono (by simp; omega))
        have ca0 : w2.cell? ⟨w.heap.size, 0, none⟩ = some (.int .u64 a) := by go_simp
        have ca1 : w2.cell? ⟨w.heap.size, 1, none⟩ = some (.int .i64 b) := by go_simp
        have cc0 : w2.cell? ⟨w.heap.size + 1, 0, none⟩ = some (.int .u64 c) := by go_simp
        have cc1 : w2.cell? ⟨w.heap.size + 1, 1, none⟩ = some (.int .i64 d) := by go_simp
        have cr0 : w2.cell? ⟨w.heap.size + 1 + 1, 0, none⟩ = some (.int .u64 0) := by go_simp
        have cr1 : w2.cell? ⟨w.heap.size + 1 + 1, 1, none⟩ = some (.int .i64 0) := by go_simp
        have fr0 : w2.frozen? ⟨w.heap.size + 1 + 1, 0, none⟩ = false := by go_simp
        have fr1 : w2.frozen? ⟨w.heap.size + 1 + 1, 1, none⟩ = false := by go_simp
        clear hb hc hf
        go_wp2_with fail
        have p1 := powI_fp d
        have m1 := fmul_fp a (powI d)
        go_region_held3 (fun w' => w'.cell? ⟨w.heap.size, 0, none⟩ = some (.int .u64 a) ∧ w'.cell? ⟨w.heap.size, 1, none⟩ = some (.int .i64 b) ∧ w'.cell? ⟨w.heap.size + 1, 0, none⟩ = some (.int .u64 c) ∧ w'.cell? ⟨w.heap.size + 1, 1, none⟩ = some (.int .i64 d) ∧ Below w.heap.size w w')
          (first | assumption | exact ⟨by go_simp, by go_simp, by go_simp, by go_simp, by (repeat (first | exact Below.refl _ _ | assumption | refine Below.drew ?_ | refine below_drewN ?_ _ | refine Below.alloc ?_ (by first | omega | (simp; done) | (simp; omega) | (simp [World.setCell]; omega)) _ | refine Below.setCell ?_ (by first | omega | (simp; done) | (simp; omega) | (simp [World.setCell]; omega)) _))⟩)
          (first | (go_at_call 80; refine (power_any _ _).mono ?_; rintro e wn ⟨rfl, rfl⟩) | (go_at_call 76; refine (multiply_any _ _ (by omega) (by omega) p1.1 p1.2 _).mono ?_; rintro e wn ⟨rfl, rfl⟩) | (go_at_call 75; refine (add_any _ _ m1.1 (by have := m1.2; omega) (by omega) (by omega) _).mono ?_; rintro e wn ⟨rfl, rfl⟩))
        rename_i hH
        go_wp2_with fail
        refine bodyPost_ret (v := idErr (joinR a b c d)) ?_ rfl ⟨rfl, hH.2.2.2.2⟩
        rw [← Key.out _ HE]
        simp [results, Try.results70, go_sem, idErr, cr0, cr1]
    · have HE := Lib.hid (joinR_no (a := a) (b := b) (c := c) (d := d) (fun h => h2 h.2))
      have h2' : vldB c d = false := by simpa using h2
      clear h2
      go_enter Try.func70, Try.ntmps70
      go_wp2_with fail
      refine (valid_any _ _ _).mono ?_
      rintro e w1 ⟨rfl, hb⟩
      obtain ⟨hc, hf, hs⟩ := bcell' hb rfl
      simp only [World.size_alloc] at hc hf hs
      go_wp2_with fail
      refine (valid_any _ _ _).mono ?_
      rintro e w2 ⟨rfl, hb2⟩
      replace hb := below_then hb hb2
      clear hc hf hs hb2
      obtain ⟨hc, hf, hs⟩ := bcell' hb rfl
      simp only [World.size_alloc] at hc hf hs
      go_wp2_with fail
      refine bodyPost_ret (v := idErr (joinR a b c d)) ?_ rfl ⟨rfl, ?_⟩
      · rw [← Key.out _ HE]
        simp [results, Try.results70, go_sem, idErr, hc]
      · have hbw : Below w.heap.size w w2 := ((((Below.refl _ _).alloc (Nat.le_refl _) _).alloc (by simp) _).alloc (by simp; omega) _).trans (hb.mono (by simp; omega))
        (repeat (first | exact Below.refl _ _ | assumption | refine Below.drew ?_ | refine below_drewN ?_ _ | refine Below.alloc ?_ (by first | omega | (simp; done) | (simp; omega) | (simp [World.setCell]; omega)) _ | refine Below.setCell ?_ (by first | omega | (simp; done) | (simp; omega) | (simp [World.setCell]; omega)) _))
  · have HE := Lib.hid (joinR_no (a := a) (b := b) (c := c) (d := d) (fun h => h1 h.1))
    have h1' : vldB a b = false := by simpa using h1
    clear h1
    go_enter Try.func70, Try.ntmps70
    go_wp2_with fail
    refine (valid_any _ _ _).mono ?_
    rintro e w1 ⟨rfl, hb⟩
    obtain ⟨hc, hf, hs⟩ := bcell' hb rfl
    simp only [World.size_alloc] at hc hf hs
    go_wp2_with fail
    refine bodyPost_ret (v := idErr (joinR a b c d)) ?_ rfl ⟨rfl, ?_⟩
    · rw [← Key.out _ HE]
      simp [results, Try.results70, go_sem, idErr, hc]
    · have hbw : Below w.heap.size w w1 := ((((Below.refl _ _).alloc (Nat.le_refl _) _).alloc (by simp) _).alloc (by simp; omega) _).trans (hb.mono (by simp; omega))
      (repeat (first | exact Below.refl _ _ | assumption | refine Below.drew ?_ | refine below_drewN ?_ _ | refine Below.alloc ?_ (by first | omega | (simp; done) | (simp; omega) | (simp [World.setCell]; omega)) _ | refine Below.setCell ?_ (by first | omega | (simp; done) | (simp; omega) | (simp [World.setCell]; omega)) _))

end

/- JoinLaws:
  What Join and Rest do to valid IDs. Plain arithmetic.
-/
section
set_option linter.unusedVariables false
set_option linter.unusedSimpArgs false
set_option linter.unnecessarySimpa false

theorem powI_add {m n : Int} (m0 : 0 ≤ m) (n0 : 0 ≤ n) (h : m + n ≤ 1048576) : powI (m + n) = fmul (powI m) (powI n) := by
  rw [powI_in (by omega) h, powI_in m0 (by omega), powI_in n0 (by omega), powZ_add]
  congr 1; omega
theorem powI_zero : powI 0 = 1 := by decide
theorem vld_fp {s n : Int} (h : vldB s n = true) (h0 : 0 ≤ s) : Fp s := ⟨h0, (vldB_iff.1 h).2.2.1⟩
theorem vld_null : vldB 0 0 = true := by decide
theorem join_vld {a b c d : Int} (h1 : vldB a b = true) (h2 : vldB c d = true) (h : b + d ≤ 1048576) : vldB (fadd (fmul a (powI d)) c) (b + d) = true := by
  obtain ⟨b0, b1, a1, e1⟩ := vldB_iff.1 h1
  obtain ⟨d0, d1, c1, e2⟩ := vldB_iff.1 h2
  refine vldB_iff.2 ⟨by omega, h, fadd_hi _ _, ?_⟩
  by_cases h0 : 0 < b + d
  · exact .inl h0
  · right
    have hb : b = 0 := by omega
    have hd : d = 0 := by omega
    subst hb hd
    have ha : a = 0 := by omega
    have hc : c = 0 := by omega
    subst ha hc
    rw [zero_fmul]; rfl

theorem join_six {s1 n1 s2 n2 s3 n3 : Int} (p1 : vldB s1 n1 = true) (p2 : vldB s2 n2 = true) (p3 : vldB s3 n3 = true) (q1 : n1 ≤ 262144) (q2 : n2 ≤ 262144) (q3 : n3 ≤ 262144) (z1 : 0 ≤ s1) (z2 : 0 ≤ s2) :
    ∃ xy yz l : Int, 0 ≤ xy ∧ 0 ≤ yz ∧ 0 ≤ n1 + n2 ∧ 0 ≤ n2 + n3 ∧ joinR s1 n1 s2 n2 = (xy, n1 + n2, 0) ∧ joinR xy (n1 + n2) s3 n3 = (l, n1 + n2 + n3, 0) ∧ joinR s2 n2 s3 n3 = (yz, n2 + n3, 0) ∧
      joinR s1 n1 yz (n2 + n3) = (l, n1 + n2 + n3, 0) ∧ joinR 0 0 s1 n1 = (s1, n1, 0) ∧ joinR s1 n1 0 0 = (s1, n1, 0) := by
  have b1 := vldB_iff.1 p1
  have b2 := vldB_iff.1 p2
  have b3 := vldB_iff.1 p3
  refine ⟨_, _, _, fadd_lo _ _, fadd_lo _ _, by omega, by omega, joinR_ok p1 p2 (by omega), joinR_ok (join_vld p1 p2 (by omega)) p3 (by omega), joinR_ok p2 p3 (by omega), ?_, ?_, ?_⟩
  · rw [joinR_ok p1 (join_vld p2 p3 (by omega)) (by omega), fassoc, powI_add (by omega) (by omega) (by omega), Int.add_assoc]
  · rw [joinR_ok vld_null p1 (by omega), zero_fmul, zero_fadd (vld_fp p1 z1)]; simp
  · rw [joinR_ok p1 vld_null (by omega), powI_zero, fmul_one (vld_fp p1 z1), fadd_zero (vld_fp p1 z1)]; simp
end

end Go.Proofs.Ytpoiejgoongllaa
