/-
  stockyardlaw22.FingerprintByte returns true.
-/
import Derived.Test.YtadldlijmnohhaaJoined
import Derived.Test.YtadldlijmnohhaaKnown22
import Derived.Test.YtadldlijmnohhaaPolyLaws
namespace Go.Proofs.Ytadldlijmnohhaa
set_option linter.unusedVariables false
set_option linter.unusedSimpArgs false
set_option linter.unnecessarySimpa false
open Go.RowKit Go.Lib
attribute [local go_sem ↓] Go.wp_at_zero Go.wp_at_succ

set_option maxHeartbeats 1000000 in
theorem lawByte_any (A : Option Addr) (cap : Nat) (zs : List Int) (at_ to : Int) (w : World) (hr : Row w w.heap.size A (zs.map (.int .u8))) (hz : ∀ z ∈ zs, 0 ≤ z ∧ z ≤ 255) (hm : zs.length ≤ 140737488355328)
    (a0 : -9223372036854775808 ≤ at_) (a1 : at_ ≤ 9223372036854775807) (t0 : 0 ≤ to ∧ to ≤ 255) :
    Calls Try.prog 4 #[.slice A zs.length cap, .int .i64 at_, .int .u8 to] w fun e w' => e = .returned (.bool true) ∧ Below w.heap.size w w' := by
  have Hz := Lib.hid hz
  clear hz
  go_enter Try.func4, Try.ntmps4
  go_wp2_with fail
  refine (known22_any _).mono ?_
  rintro e w1 ⟨rfl, hb1⟩
  by_cases h0 : 0 < zs.length
  · have h0' : ((zs.length : Int) == 0) = false := beq_eq_false_iff_ne.2 (by omega)
    go_wp2_with fail
    refine (fold_any _ _ a0 a1 (by omega) _).mono ?_
    rintro e w2 ⟨rfl, rfl⟩
    go_wp2_with fail
    obtain ⟨k, hk⟩ := Int.eq_ofNat_of_zero_le (foldI_lo at_ zs.length)
    have hkl : k < zs.length := by have := foldI_hi at_ zs.length (by omega); omega
    have HK := Lib.hid hk
    clear hk
    simp only [HK.out]
    have hbs := hb1.size
    refine (joined_one _ _ (w1.heap.size + 1) A cap zs _ row_new1 (((hr.below hb1 (Nat.le_refl _)).more hbs).below ((Below.refl _ _).alloc (Nat.le_refl _) _) (Nat.le_refl _) |>.more (by omega)) (by simp) hm).mono ?_
    rintro e w3 ⟨A', cap', rfl, hown, hb3⟩
    simp only [World.size_alloc] at hown hb3
    obtain ⟨g, rfl, hg0, hg1⟩ := own_some hown h0
    have hc := hown.cellAt k (by omega)
    rw [List.getElem?_eq_getElem (by simpa using hkl), List.getElem_map] at hc
    have hf := hown.frozenAt k
    go_wp2_with fail
    obtain ⟨hst, hgr⟩ := hown.stored k (.int .u8 to)
    have hb3' : Below w.heap.size w w3 := (hb1.trans ((Below.refl _ _).alloc hbs _)).trans (hb3.mono (by omega))
    have hb4 : Below w.heap.size w (w3.setCell ⟨g, k, none⟩ (.int .u8 to)) := hb3'.setCell (by show w.heap.size ≤ g; omega) _
    clear hc hf hgr hown hb3 hb3'
    generalize w3.setCell ⟨g, k, none⟩ (.int .u8 to) = W at *
    have hrb := hr.below hb4 (Nat.le_refl _)
    obtain ⟨ad, rfl, hbb, hcb⟩ := hrb.at_ (k := k) (by simpa using hkl)
    rw [List.getElem_map] at hcb
    have hrc := own_row hst
    rw [← List.map_set] at hrc
    have hz2 : ∀ z ∈ zs.set k to, 0 ≤ z ∧ z ≤ 255 := fun z hz => by
      rcases List.mem_or_eq_of_mem_set hz with h | rfl
      · exact Hz.out z h
      · exact t0
    have S1 := Lib.hid (fun n => sum_lit (some ad) zs.length cap _ zs (W.drewN n) rfl hrb Hz.out (by omega))
    have S2 := Lib.hid (fun n => sum_lit (some ⟨g, 0, none⟩) zs.length cap' _ (zs.set k to) (W.drewN n) (by simp) hrc hz2 (by omega))
    have hlaw := Lib.hid (sumZ_set zs k hkl to Hz.out t0)
    clear hrb hrc hz2 hst
    go_quiet ((first | (go_at_call 21; with_reducible exact quiet_same (S1.out _)) | (go_at_call 21; with_reducible exact quiet_same (S2.out _))))
    go_wp2
    go_ret
    refine ⟨ret_bool ?_, below_drewN hb4 _⟩
    have := hlaw.out
    rw [beq_iff_eq, Bool.eq_iff_iff, beq_iff_eq, beq_iff_eq]
    exact this
  · have h1 : zs = [] := List.eq_nil_of_length_eq_zero (by omega)
    subst h1
    go_wp2_with fail
    go_ret
    exact ⟨rfl, hb1⟩

end Go.Proofs.Ytadldlijmnohhaa
