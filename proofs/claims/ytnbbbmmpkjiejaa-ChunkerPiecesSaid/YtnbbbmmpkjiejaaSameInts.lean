/-
  stockyardmake.SameInts: are two lists of numbers equal?
-/
import Derived.Test.YtnbbbmmpkjiejaaSame
namespace Go.Proofs.Ytnbbbmmpkjiejaa
set_option linter.unusedVariables false
set_option linter.unusedSimpArgs false
set_option linter.unnecessarySimpa false
open Go.RowKit Go.Lib

set_option maxHeartbeats 400000 in
theorem sameInts_any (A A2 : Option Addr) (cap cap2 B : Nat) (xs ys : List Int) (w : World) (hr : Row w B A (xs.map (.int .i64))) (hs : Row w B A2 (ys.map (.int .i64))) (hm : xs.length ≤ 9223372036854775807) (hm2 : ys.length ≤ 9223372036854775807) :
    Calls Try.prog 23 #[.slice A xs.length cap, .slice A2 ys.length cap2] w fun e w' => e = .returned (.bool (eqZ xs ys)) ∧ Drawn w w' := by
  by_cases hl : xs.length = ys.length
  · have Hl := Lib.hid hl
    go_enter Try.func23, Try.ntmps23
    rw [← hl]
    clear hl
    go_wp2_with fail
    go_loopw [5] (fun i wr => (∃ k : Nat, k ≤ xs.length ∧ i = .int .i64 k ∧ Hid (xs.take k = ys.take k)) ∧ Drawn w wr) (fun i _ => xs.length - (intOf i).toNat)
    case atStart => exact ⟨⟨0, Nat.zero_le _, rfl, Lib.hid rfl⟩, Drawn.refl _⟩
    case round =>
      obtain ⟨⟨k, hk, rfl, HT⟩, hd⟩ := hrel
      by_cases hlt : k < xs.length
      · obtain ⟨ad, rfl, hb, hc⟩ := (hr.keep (w' := wr) fun p _ => hd.cell p).at_ (k := k) (by simpa using hlt)
        have hlt2 : k < ys.length := by rw [← Hl.out]; exact hlt
        obtain ⟨ad2, rfl, hb2, hc2⟩ := (hs.keep (w' := wr) fun p _ => hd.cell p).at_ (k := k) (by simpa using hlt2)
        rw [List.getElem_map] at hc hc2
        by_cases he : xs[k] = ys[k]
        · have HE := Lib.hid (take_eq_succ HT.out hlt hlt2 he)
          rw [← he] at hc2
          clear he
          go_wp2_with fail
          go_quiet (fail)
          go_wp2
          go_roundw
          case rel => exact ⟨⟨k + 1, by omega, by go_num, HE⟩, hd.drewN _⟩
          case measure => simp [intOf]; omega
        · have HE := Lib.hid (show false = eqZ xs ys from eqZ_no (fun h => he (by subst h; rfl)))
          have hne : (xs[k] != ys[k]) = true := by rw [bne_iff_ne]; exact he
          clear he
          go_wp2_with fail
          go_quiet (fail)
          go_wp2
          go_ret
          exact ⟨ret_bool HE.out, hd.drewN _⟩
      · go_wp2_with fail
        go_ret
        exact ⟨ret_bool (eqZ_yes (by have h := HT.out; rwa [List.take_of_length_le (by omega), List.take_of_length_le (by rw [← Hl.out]; omega)] at h)), hd⟩
  · have HE := Lib.hid (show false = eqZ xs ys from eqZ_no (fun h => hl (by rw [h])))
    have hne : ((xs.length : Int) != (ys.length : Int)) = true := by rw [bne_iff_ne]; omega
    have hne2 : ((xs.length : Nat) != (ys.length : Nat)) = true := by rw [bne_iff_ne]; omega
    clear hl
    go_enter Try.func23, Try.ntmps23
    go_wp2_with fail
    go_ret
    exact ⟨ret_bool HE.out, Drawn.refl _⟩

end Go.Proofs.Ytnbbbmmpkjiejaa
