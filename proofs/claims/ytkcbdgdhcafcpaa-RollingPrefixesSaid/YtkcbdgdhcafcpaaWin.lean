/-
  fingerprint.Window and the reference's: what they return for all lists of numbers and all bounds.
-/
import Derived.Test.YtkcbdgdhcafcpaaPower
import Derived.Test.YtkcbdgdhcafcpaaSlice
import Derived.Test.YtkcbdgdhcafcpaaHeldK
import Derived.Test.YtkcbdgdhcafcpaaRegR
import Derived.IntWalk
namespace Go.Proofs.Ytkcbdgdhcafcpaa
set_option linter.unusedVariables false
set_option linter.unusedSimpArgs false
set_option linter.unnecessarySimpa false
open Go.RowKit Go.Lib
attribute [local go_sem ↓] Go.wp_at_zero Go.wp_at_succ

/-- element k, 0 behind the end -/
def nth (zs : List Int) (k : Int) : Int := zs.getD k.toNat 0
theorem nth_at {zs : List Int} {k : Nat} (h : k < zs.length) : nth zs k = zs[k] := by
  unfold nth; rw [Int.toNat_natCast, List.getD_eq_getElem?_getD, List.getElem?_eq_getElem h]; rfl
/-- what Window returns -/
def winR (zs : List Int) (f t : Int) : Int × Bool :=
  if f < 0 ∨ t < f ∨ (zs.length : Int) ≤ t ∨ 1048576 < t - f then (0, false)
  else if 2305843009213693951 ≤ nth zs f ∨ 2305843009213693951 ≤ nth zs t then (0, false)
  else (fsub (nth zs t) (fmul (nth zs f) (powI (t - f))), true)
def winV (r : Int × Bool) : Value := .tuple #[.int .u64 r.1, .bool r.2]
theorem winR_no {zs : List Int} {f t : Int} (h : f < 0 ∨ t < f ∨ (zs.length : Int) ≤ t ∨ 1048576 < t - f) : winR zs f t = (0, false) := by unfold winR; rw [if_pos h]
theorem winR_bad {zs : List Int} {f t : Int} (h : 2305843009213693951 ≤ nth zs f ∨ 2305843009213693951 ≤ nth zs t) : winR zs f t = (0, false) := by
  unfold winR
  by_cases g : f < 0 ∨ t < f ∨ (zs.length : Int) ≤ t ∨ 1048576 < t - f
  · rw [if_pos g]
  · rw [if_neg g, if_pos h]
theorem winR_ok {zs : List Int} {f t : Int} (h : ¬ (f < 0 ∨ t < f ∨ (zs.length : Int) ≤ t ∨ 1048576 < t - f)) (h2 : ¬ (2305843009213693951 ≤ nth zs f ∨ 2305843009213693951 ≤ nth zs t)) :
    winR zs f t = (fsub (nth zs t) (fmul (nth zs f) (powI (t - f))), true) := by unfold winR; rw [if_neg h, if_neg h2]

set_option maxHeartbeats 1000000 in
theorem window_any (A : Option Addr) (cap B : Nat) (zs : List Int) (f t : Int) (w : World) (hr : Row w B A (zs.map (.int .u64))) (hz : ∀ z ∈ zs, 0 ≤ z ∧ z < 18446744073709551616) (hm : zs.length ≤ 9223372036854775807)
    (f0 : -9223372036854775808 ≤ f) (f1 : f ≤ 9223372036854775807) (t0 : -9223372036854775808 ≤ t) (t1 : t ≤ 9223372036854775807) :
    Calls Try.prog 31 #[.slice A zs.length cap, .int .i64 f, .int .i64 t] w fun e w' => e = .returned (winV (winR zs f t)) ∧ Drawn w w' := by
  have Hz := Lib.hid hz
  clear hz
  have key : ∀ r : Int × Bool, Hid (winR zs f t = r) → winV r = winV (winR zs f t) := fun r h => by rw [h.out]
  have Key := Lib.hid key
  clear key
  by_cases c1 : f < 0
  · have HE := Lib.hid (winR_no (zs := zs) (t := t) (.inl c1))
    go_enter Try.func31, Try.ntmps31
    go_wp2_with fail
    (refine bodyPost_ret (v := winV (winR zs _ _)) ?_ rfl ⟨rfl, Drawn.refl _⟩; rw [← Key.out _ HE]; simp [results, Try.results31, go_sem, winV])
  · by_cases c2 : t < f
    · have HE := Lib.hid (winR_no (zs := zs) (.inr (.inl c2)))
      go_enter Try.func31, Try.ntmps31
      go_wp2_with fail
      (refine bodyPost_ret (v := winV (winR zs _ _)) ?_ rfl ⟨rfl, Drawn.refl _⟩; rw [← Key.out _ HE]; simp [results, Try.results31, go_sem, winV])
    · by_cases c3 : (zs.length : Int) ≤ t
      · have HE := Lib.hid (winR_no (f := f) (.inr (.inr (.inl c3))))
        go_enter Try.func31, Try.ntmps31
        go_wp2_with fail
        (refine bodyPost_ret (v := winV (winR zs _ _)) ?_ rfl ⟨rfl, Drawn.refl _⟩; rw [← Key.out _ HE]; simp [results, Try.results31, go_sem, winV])
      · have hwr : IntKind.i64.wrap (t - f) = t - f := IntWalk.i64_in _ (by omega)
        by_cases c4 : 1048576 < t - f
        · have HE := Lib.hid (winR_no (zs := zs) (.inr (.inr (.inr c4))))
          go_enter Try.func31, Try.ntmps31
          go_wp2_with fail
          (refine bodyPost_ret (v := winV (winR zs _ _)) ?_ rfl ⟨rfl, Drawn.refl _⟩; rw [← Key.out _ HE]; simp [results, Try.results31, go_sem, winV])
        · obtain ⟨k, rfl⟩ := Int.eq_ofNat_of_zero_le (show 0 ≤ f by omega)
          obtain ⟨m, rfl⟩ := Int.eq_ofNat_of_zero_le (show 0 ≤ t by omega)
          have hk : k < zs.length := by omega
          have hm' : m < zs.length := by omega
          have ek := nth_at hk
          have em := nth_at hm'
          obtain ⟨ad, rfl, hb, hck⟩ := hr.at_ (k := k) (by simpa using hk)
          obtain ⟨ad', had, hb', hcm⟩ := hr.at_ (k := m) (by simpa using hm')
          injection had with had
          subst had
          rw [List.getElem_map] at hck hcm
          rw [← ek] at hck
          rw [← em] at hcm
          have bk := Hz.out _ (List.getElem_mem hk)
          have bm := Hz.out _ (List.getElem_mem hm')
          rw [← ek] at bk
          rw [← em] at bm
          have hlk : (k : Int) < zs.length := by omega
          have hlm : (m : Int) < zs.length := by omega
          clear hb hb' ek em
          by_cases c5 : 2305843009213693951 ≤ nth zs k
          · have HE := Lib.hid (winR_bad (f := (k : Int)) (t := (m : Int)) (.inl c5))
            generalize nth zs k = x at *
            generalize nth zs m = y at *
            go_enter Try.func31, Try.ntmps31
            go_wp2_with fail
            (refine bodyPost_ret (v := winV (winR zs _ _)) ?_ rfl ⟨rfl, Drawn.refl _⟩; rw [← Key.out _ HE]; simp [results, Try.results31, go_sem, winV])
          · by_cases c6 : 2305843009213693951 ≤ nth zs m
            · have HE := Lib.hid (winR_bad (f := (k : Int)) (t := (m : Int)) (.inr c6))
              generalize nth zs k = x at *
              generalize nth zs m = y at *
              go_enter Try.func31, Try.ntmps31
              go_wp2_with fail
              (refine bodyPost_ret (v := winV (winR zs _ _)) ?_ rfl ⟨rfl, Drawn.refl _⟩; rw [← Key.out _ HE]; simp [results, Try.results31, go_sem, winV])
            · have HE := Lib.hid (winR_ok (zs := zs) (f := (k : Int)) (t := (m : Int)) (by omega) (by omega))
              generalize nth zs k = x at *
              generalize nth zs m = y at *
              go_enter Try.func31, Try.ntmps31
              have hp := powI_fp ((m : Int) - k)
              have hp0 := hp.1
              have hp1 := hp.2
              clear hp
              have HP := Lib.hid (fun W => power_any ((m : Int) - k) W)
              generalize powI ((m : Int) - k) = pw at *
              have m0 := fmul_lo x pw
              have m1 := fmul_hi x pw
              go_wp2_with fail
              go_quiet ((first | (go_at_call 34; exact quiet_same (HP.out _)) | (go_at_call 38; exact quiet_same (multiply_any x pw (by omega) (by omega) hp0 hp1 _)) | (go_at_call 39; exact quiet_same (subtract_any _ _ (by omega) (by omega) (by omega) (by omega) _))))
              go_wp2
              refine bodyPost_ret (v := winV (winR zs _ _)) ?_ rfl ⟨rfl, _, rfl⟩
              rw [← Key.out _ HE]
              simp [results, Try.results31, go_sem, winV]

end Go.Proofs.Ytkcbdgdhcafcpaa
