/-
  stockyardlaw22.FingerprintNeighbours returns true.
-/
import Derived.Test.YtadldlijmnohhaaJoined
import Derived.Test.YtadldlijmnohhaaKnown22
import Derived.Test.YtadldlijmnohhaaPolyLaws
namespace Go.Proofs.Ytadldlijmnohhaa
set_option linter.unusedVariables false
set_option linter.unusedSimpArgs false
set_option linter.unnecessarySimpa false
open Go.RowKit Go.Lib
attribute [local go_sem ↓] Go.wp_at_zero Go.wp_at_succ

set_option maxHeartbeats 1000000 in
theorem lawNeighbours_any (A : Option Addr) (cap : Nat) (zs : List Int) (at_ : Int) (w : World) (hr : Row w w.heap.size A (zs.map (.int .u8))) (hz : ∀ z ∈ zs, 0 ≤ z ∧ z ≤ 255) (hm : zs.length ≤ 140737488355328)
    (a0 : -9223372036854775808 ≤ at_) (a1 : at_ ≤ 9223372036854775807) :
    Calls Try.prog 5 #[.slice A zs.length cap, .int .i64 at_] w fun e w' => e = .returned (.bool true) ∧ Below w.heap.size w w' := by
  have Hz := Lib.hid hz
  clear hz
  go_enter Try.func5, Try.ntmps5
  go_wp2_with fail
  refine (known22_any _).mono ?_
  rintro e w1 ⟨rfl, hb1⟩
  by_cases h0 : 2 ≤ zs.length
  · have hlt : ¬ ((zs.length : Int) < 2) := by omega
    go_wp2_with fail
    refine (fold_any _ _ a0 a1 (by omega) _).mono ?_
    rintro e w2 ⟨rfl, rfl⟩
    go_wp2_with fail
    obtain ⟨k, hk⟩ := Int.eq_ofNat_of_zero_le (foldI_lo at_ ((zs.length : Int) - 1))
    have hkl : k + 1 < zs.length := by have := foldI_hi at_ ((zs.length : Int) - 1) (by omega); omega
    have HK := Lib.hid hk
    clear hk
    simp only [HK.out]
    have hbs := hb1.size
    refine (joined_one _ _ (w1.heap.size + 1) A cap zs _ row_new1 (((hr.below hb1 (Nat.le_refl _)).more hbs).below ((Below.refl _ _).alloc (Nat.le_refl _) _) (Nat.le_refl _) |>.more (by omega)) (by simp) hm).mono ?_
    rintro e w3 ⟨A', cap', rfl, hown, hb3⟩
    simp only [World.size_alloc] at hown hb3
    obtain ⟨g, rfl, hg0, hg1⟩ := own_some hown (by omega)
    have hb3' : Below w.heap.size w w3 := (hb1.trans ((Below.refl _ _).alloc hbs _)).trans (hb3.mono (by omega))
    have hrb := hr.below hb3' (Nat.le_refl _)
    obtain ⟨ad, rfl, hbb, hcb⟩ := hrb.at_ (k := k) (by simpa using (by omega : k < zs.length))
    rw [List.getElem_map] at hcb
    obtain ⟨ad', had, hbb', hcb'⟩ := hrb.at_ (k := k + 1) (by simpa using hkl)
    injection had with had
    subst had
    rw [List.getElem_map] at hcb'
    have hf := hown.frozenAt k
    have hf' := hown.frozenAt (k + 1)
    have hi1 : IntKind.i64.wrap ((k : Int) + 1) = (k : Int) + 1 := by rw [Go.IntWalk.i64_in] <;> omega
    have hi2 : ((k : Int) + 1).toNat = k + 1 := by omega
    have hne : g ≠ ad.block := by omega
    clear hbb hbb'
    go_wp2_with fail
    have hk0 : (0 : Int) ≤ (k : Int) + 1 ∧ (k : Int) + 1 < zs.length := by omega
    have hk1 : (0 : Int) ≤ (k : Int) ∧ (k : Int) < zs.length := by omega
    have hne0 : g ≠ (ad.add k).block := by unfold Addr.add; split <;> exact hne
    replace hcb' : w3.cell? ⟨ad.block, ad.off + (k + 1), none⟩ = some (.int .u8 zs[k + 1]) := hcb'
    have hkl0 : k < zs.length := by omega
    have hc := hown.cellAt k (by omega)
    rw [List.getElem?_eq_getElem (by simpa using hkl0), List.getElem_map] at hc
    obtain ⟨hst1, hgr1⟩ := hown.stored k (.int .u8 zs[k + 1])
    have hc1 := hst1.cellAt (k + 1) (by omega)
    rw [List.getElem?_eq_getElem (by simpa using hkl), List.getElem_set_ne (by omega), List.getElem_map] at hc1
    have hf1 := hst1.frozenAt (k + 1)
    obtain ⟨hst, hgr⟩ := hst1.stored (k + 1) (.int .u8 zs[k])
    have hgc : w3.drew.cell? ⟨g, k, none⟩ = some (.int .u8 zs[k]) := hc
    have hgf : w3.drew.frozen? ⟨g, k, none⟩ = false := hf
    have hgc1 : (w3.drew.setCell ⟨g, k, none⟩ (.int .u8 zs[k + 1])).cell? ⟨g, k + 1, none⟩ = some (.int .u8 zs[k + 1]) := hc1
    have hgf1 : (w3.drew.setCell ⟨g, k, none⟩ (.int .u8 zs[k + 1])).frozen? ⟨g, k + 1, none⟩ = false := hf1
    have hgc2 := hown.cellAt (k + 1) (by omega)
    rw [List.getElem?_eq_getElem (by simpa using hkl), List.getElem_map] at hgc2
    have hgc2' : w3.drew.cell? ⟨g, k + 1, none⟩ = some (.int .u8 zs[k + 1]) := hgc2
    have hgf2 : w3.drew.frozen? ⟨g, k + 1, none⟩ = false := hf'
    clear hc1 hf1
    go_region_held3 (fun w' => w'.cell? (ad.add k) = some (.int .u8 zs[k]) ∧ w'.cell? ⟨ad.block, ad.off + (k + 1), none⟩ = some (.int .u8 zs[k + 1])) (first | assumption | exact ⟨hcb, hcb'⟩ | exact ⟨(World.cell?_setCell_far _ _ _ _ hne0).trans hcb, (World.cell?_setCell_far _ _ _ _ hne).trans hcb'⟩ | exact ⟨(World.cell?_setCell_far _ _ _ _ hne0).trans ((World.cell?_setCell_far _ _ _ _ hne0).trans hcb), (World.cell?_setCell_far _ _ _ _ hne).trans ((World.cell?_setCell_far _ _ _ _ hne).trans hcb')⟩) (fail)
    have hb4 : Below w.heap.size w ((w3.setCell ⟨g, k, none⟩ (.int .u8 zs[k + 1])).setCell ⟨g, k + 1, none⟩ (.int .u8 zs[k])).drew :=
      ((hb3'.setCell (by show w.heap.size ≤ g; omega) _).setCell (by show w.heap.size ≤ g; omega) _).drew
    have hrc := own_row hst
    rw [← List.map_set, ← List.map_set] at hrc
    have hrc' := hrc.below ((Below.refl _ _).drew) (Nat.le_refl _)
    clear hrc
    rename_i hh
    clear hh
    clear hc hcb hcb' hf hf' hst1 hgr1 hst hgr hgc hgf hgc1 hgf1 hgc2 hgc2' hgf2 hown hb3 hb3' hrb
    generalize ((w3.setCell ⟨g, k, none⟩ (.int .u8 zs[k + 1])).setCell ⟨g, k + 1, none⟩ (.int .u8 zs[k])).drew = W at *
    have hrb := hr.below hb4 (Nat.le_refl _)
    obtain ⟨ad0, had0, _, hcb⟩ := hrb.at_ (k := k) (by simpa using hkl0)
    injection had0 with had0
    subst had0
    rw [List.getElem_map] at hcb
    obtain ⟨ad', had, _, hcb'⟩ := hrb.at_ (k := k + 1) (by simpa using hkl)
    injection had with had
    subst had
    rw [List.getElem_map] at hcb'
    replace hcb' : W.cell? ⟨ad.block, ad.off + (k + 1), none⟩ = some (.int .u8 zs[k + 1]) := hcb'
    have hz2 : ∀ z ∈ (zs.set k zs[k + 1]).set (k + 1) zs[k], 0 ≤ z ∧ z ≤ 255 := fun z hz => by
      rcases List.mem_or_eq_of_mem_set hz with h | rfl
      · rcases List.mem_or_eq_of_mem_set h with h | rfl
        · exact Hz.out z h
        · exact elem_bd Hz.out hkl
      · exact elem_bd Hz.out hkl0
    have S1 := Lib.hid (fun n => sum_lit (some ad) zs.length cap _ zs (W.drewN n) rfl hrb Hz.out (by omega))
    have S2 := Lib.hid (fun n => sum_lit (some ⟨g, 0, none⟩) zs.length cap' _ ((zs.set k zs[k + 1]).set (k + 1) zs[k]) (W.drewN n) (by simp) hrc' hz2 (by omega))
    have hlaw := Lib.hid (sumZ_swap_at zs k hkl Hz.out)
    clear hrb hrc' hz2
    go_wp2_with fail
    go_quiet ((first | (go_at_call 21; with_reducible exact quiet_same (S1.out _)) | (go_at_call 21; with_reducible exact quiet_same (S2.out _))))
    go_wp2
    go_ret
    refine ⟨ret_bool ?_, below_drewN hb4 _⟩
    have := hlaw.out
    rw [beq_iff_eq, Bool.eq_iff_iff, beq_iff_eq, beq_iff_eq]
    exact this
  · have h1 : ((zs.length : Int) < 2) := by omega
    go_wp2_with fail
    go_ret
    exact ⟨rfl, hb1⟩

end Go.Proofs.Ytadldlijmnohhaa
