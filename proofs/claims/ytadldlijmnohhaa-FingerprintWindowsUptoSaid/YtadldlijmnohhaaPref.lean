/-
  fingerprint.Prefixes and the reference's: the fingerprints of all prefixes.
-/
import Derived.Test.YtadldlijmnohhaaSum
import Derived.Test.YtadldlijmnohhaaOwn
import Derived.Test.YtadldlijmnohhaaRegC
import Derived.OwnWalk
import Derived.Deep.OwnRows
namespace Go.Proofs.Ytadldlijmnohhaa
set_option linter.unusedVariables false
set_option linter.unusedSimpArgs false
set_option linter.unnecessarySimpa false
open Go.RowKit Go.Lib
attribute [local go_sem ↓] Go.wp_at_zero Go.wp_at_succ

/-- the fingerprints of the prefixes up to the k-th, and 0 for the others -/
def prefK (zs : List Int) (k : Nat) : List Int := (List.range (zs.length + 1)).map fun j => if j ≤ k then sumZ (zs.take j) else 0
/-- the fingerprints of the first prefixes -/
def prefU (zs : List Int) (k : Nat) : List Int := (List.range (k + 1)).map fun j => sumZ (zs.take j)
theorem prefK_length (zs : List Int) (k : Nat) : (prefK zs k).length = zs.length + 1 := by simp [prefK]
theorem prefU_length (zs : List Int) (k : Nat) : (prefU zs k).length = k + 1 := by simp [prefU]
theorem prefK_full (zs : List Int) : prefK zs zs.length = prefU zs zs.length := by
  unfold prefK prefU
  refine List.map_congr_left fun j hj => ?_
  rw [if_pos (by have := List.mem_range.1 hj; omega)]
theorem prefK_zero (zs : List Int) : prefK zs 0 = List.replicate (zs.length + 1) 0 := by
  unfold prefK
  refine List.ext_getElem (by simp) fun j h1 h2 => ?_
  simp only [List.getElem_map, List.getElem_range, List.getElem_replicate]
  by_cases h : j ≤ 0
  · have : j = 0 := by omega
    subst this
    rfl
  · rw [if_neg h]
theorem prefK_get (zs : List Int) (k j : Nat) (h : j < (prefK zs k).length) : (prefK zs k)[j] = if j ≤ k then sumZ (zs.take j) else 0 := by simp [prefK]
theorem prefK_set (zs : List Int) (k : Nat) (h : k < zs.length) : (prefK zs k).set (k + 1) (sumZ (zs.take (k + 1))) = prefK zs (k + 1) := by
  refine List.ext_getElem (by simp [prefK]) fun j h1 h2 => ?_
  rw [List.getElem_set, prefK_get, prefK_get]
  by_cases e : k + 1 = j
  · subst e
    rw [if_pos rfl, if_pos (Nat.le_refl _)]
  · rw [if_neg e]
    by_cases l : j ≤ k
    · rw [if_pos l, if_pos (by omega)]
    · rw [if_neg l, if_neg (by omega)]
theorem prefK_at (zs : List Int) (k : Nat) (h : k < zs.length) : (prefK zs k)[k]'(by rw [prefK_length]; omega) = sumZ (zs.take k) := by
  simp [prefK]
theorem prefU_snoc (zs : List Int) (k : Nat) : prefU zs k ++ [sumZ (zs.take (k + 1))] = prefU zs (k + 1) := by
  unfold prefU
  rw [List.range_succ (n := k + 1), List.map_append]
  rfl
theorem prefU_at (zs : List Int) (k j : Nat) (h : j ≤ k) : (prefU zs k)[j]'(by rw [prefU_length]; omega) = sumZ (zs.take j) := by
  simp [prefU]

set_option maxHeartbeats 1000000 in
theorem prefixes_any (A : Option Addr) (cap B : Nat) (zs : List Int) (w : World) (hr : Row w B A (zs.map (.int .u8))) (hB : B ≤ w.heap.size) (hz : ∀ z ∈ zs, 0 ≤ z ∧ z ≤ 255) (hm : zs.length ≤ 1048576) :
    Calls Try.prog 31 #[.slice A zs.length cap] w fun e w' => ∃ A' cap', e = .returned (.slice A' (prefU zs zs.length).length cap') ∧
      w'.ownsRow w.heap.size 22 1 (.slice A' (prefU zs zs.length).length cap') (prefU zs zs.length).length ((prefU zs zs.length).map (.int .u64)) ∧ Below w.heap.size w w' := by
  have Hz := Lib.hid hz
  clear hz
  have hwr : IntKind.i64.wrap ((zs.length : Int) + 1) = ((zs.length + 1 : Nat) : Int) := by rw [Go.IntWalk.i64_in] <;> omega
  obtain ⟨i0, hi, hz0, hz1, hz2⟩ := info_parts (show (Try.prog.info? 22).map (fun i => (i.zero, i.size, i.bytes)) = some (some (.int .u64 0), 1, 8) from rfl)
  go_enter Try.func31, Try.ntmps31
  go_wp2_with (at_make; refine wpList_make_full _ rfl (.tmp 8) (.tmp 8) 42 rfl w.heap.size 22 i0 (.int .u64 0) 1 Try.underlying42 hi hz0 hz1 .i64 .i64 _ _ (zs.length + 1) rfl rfl (by simp) (by simp) (by rw [hz2]; omega) (by unfold maxLen; omega) (Nat.le_refl _) ?_)
  intro w1 hown hgrow
  simp only [Value.cells, Nat.mul_one, toList_madeCells_one] at hown
  rw [show List.replicate (zs.length + 1) (Value.int .u64 0) = (prefK zs 0).map (.int .u64) by rw [prefK_zero, List.map_replicate]] at hown
  have hb1 : Below w.heap.size w w1 := (Below.refl _ _).grown hgrow (Nat.le_refl _) (by simp)
  go_wp2_with fail
  go_loopw [12] (fun i wr => (∃ k : Nat, k ≤ zs.length ∧ i = .int .i64 k ∧ wr.ownsRow w.heap.size 22 1 (.slice (some ⟨w.heap.size, 0, none⟩) (zs.length + 1) (zs.length + 1)) (zs.length + 1) ((prefK zs k).map (.int .u64))) ∧ Below w.heap.size w wr) (fun i _ => zs.length - (intOf i).toNat)
  case atStart => exact ⟨⟨0, Nat.zero_le _, rfl, hown⟩, hb1⟩
  case round =>
    clear hown hb1 hgrow
    obtain ⟨⟨k, hk, rfl, hown⟩, hb⟩ := hrel
    by_cases hlt : k < zs.length
    · obtain ⟨ad, rfl, hbl, hc⟩ := (hr.below hb hB).at_ (k := k) (by simpa using hlt)
      rw [List.getElem_map] at hc
      have hbd := elem_bd Hz.out hlt
      have HS := Lib.hid (sumZ_take zs k hlt)
      have hf := sumZ_fp (zs.take k)
      have hf0 := hf.1
      have hf1 := hf.2
      clear hf
      have m0 := fmul_lo (sumZ (zs.take k)) 747382712868975713
      have m1 := fmul_hi (sumZ (zs.take k)) 747382712868975713
      have hg := hown.cellAt k (by omega)
      rw [List.getElem?_eq_getElem (by rw [List.length_map, prefK_length]; omega), List.getElem_map, prefK_at zs k hlt] at hg
      have hi1 : IntKind.i64.wrap ((k : Int) + 1) = (k : Int) + 1 := by rw [Go.IntWalk.i64_in] <;> omega
      have hi2 : ((k : Int) + 1).toNat = k + 1 := by omega
      have hk1 : (k : Int) + 1 < (zs.length : Int) + 1 := by omega
      have hk2 : (k : Int) < (zs.length : Int) + 1 := by omega
      have hk3 : (0 : Int) ≤ (k : Int) + 1 := by omega
      have hg1 := hown.cellAt (k + 1) (by omega)
      rw [List.getElem?_eq_getElem (by rw [List.length_map, prefK_length]; omega), List.getElem_map] at hg1
      have hfz := hown.frozenAt (k + 1)
      go_wp2_with fail
      refine (multiply_any _ _ hf0 hf1 (by omega) (by omega) _).mono ?_
      rintro e w' ⟨rfl, rfl⟩
      go_wp2_with fail
      refine (add_any _ _ m0 m1 (by omega) (by omega) _).mono ?_
      rintro e w' ⟨rfl, rfl⟩
      go_wp2_with fail
      have hst := hown.stored (k + 1) (.int .u64 (sumZ (zs.take (k + 1))))
      have HV := Lib.hid (show fadd (fmul (sumZ (zs.take k)) 747382712868975713) (zs[k] + 1) = sumZ (zs.take (k + 1)) by rw [HS.out]; rfl)
      go_roundw
      case rel =>
        refine ⟨⟨k + 1, by omega, by go_num, ?_⟩, ?_⟩
        · rw [HV.out, ← prefK_set zs k hlt, List.map_set]
          exact hst.1
        · exact hb.setCell (Nat.le_refl _) _
      case measure => simp [intOf]; omega
    · go_wp2_with fail
      go_ret
      have e : k = zs.length := by omega
      subst e
      rw [prefK_full] at hown
      rw [prefU_length]
      exact ⟨some ⟨w.heap.size, 0, none⟩, zs.length + 1, by simp [go_sem], hown, hb⟩

set_option maxHeartbeats 1000000 in
theorem refPrefixes_any (A : Option Addr) (cap B : Nat) (zs : List Int) (w : World) (hr : Row w B A (zs.map (.int .u8))) (hB : B ≤ w.heap.size) (hz : ∀ z ∈ zs, 0 ≤ z ∧ z ≤ 255) (hm : zs.length ≤ 1048576) :
    Calls Try.prog 32 #[.slice A zs.length cap] w fun e w' => ∃ A' cap', e = .returned (.slice A' (prefU zs zs.length).length cap') ∧
      w'.ownsRow w.heap.size 22 1 (.slice A' (prefU zs zs.length).length cap') (prefU zs zs.length).length ((prefU zs zs.length).map (.int .u64)) ∧ Below w.heap.size w w' := by
  have Hz := Lib.hid hz
  clear hz
  go_enter Try.func32, Try.ntmps32
  go_wp2_with fail
  go_loopw [3, 4] (fun v i wr => (∃ k g cap : Nat, k ≤ zs.length ∧ i = .int .i64 k ∧ v = .slice (some ⟨g, 0, none⟩) (k + 1) cap ∧ wr.ownsRow w.heap.size 22 1 (.slice (some ⟨g, 0, none⟩) (k + 1) cap) (k + 1) ((prefU zs k).map (.int .u64))) ∧ Below w.heap.size w wr) (fun _ i _ => zs.length - (intOf i).toNat)
  case atStart => exact ⟨⟨0, _, _, Nat.zero_le _, rfl, rfl, World.ownsRow_lit _ _ _ (Nat.le_refl _) (by unfold maxLen; omega) rfl⟩, by (repeat (first | exact Below.refl _ _ | assumption | refine Below.drew ?_ | refine below_drewN ?_ _ | refine Below.alloc ?_ (by first | omega | (simp; done) | (simp; omega) | (simp [World.setCell]; omega)) _ | refine Below.setCell ?_ (by first | omega | (simp; done) | (simp; omega) | (simp [World.setCell]; omega)) _))⟩
  case round =>
    obtain ⟨⟨k, g, c, hk, rfl, rfl, hown⟩, hb⟩ := hrel
    by_cases hlt : k < zs.length
    · obtain ⟨ad, rfl, hbl, hc⟩ := (hr.below hb hB).at_ (k := k) (by simpa using hlt)
      rw [List.getElem_map] at hc
      have hbd := elem_bd Hz.out hlt
      have HS := Lib.hid (sumZ_take zs k hlt)
      have hf := sumZ_fp (zs.take k)
      have hf0 := hf.1
      have hf1 := hf.2
      clear hf
      have m0 := fmul_lo (sumZ (zs.take k)) 747382712868975713
      have m1 := fmul_hi (sumZ (zs.take k)) 747382712868975713
      have hg := hown.cellAt k (by omega)
      rw [List.getElem?_eq_getElem (by rw [List.length_map, prefU_length]; omega), List.getElem_map, prefU_at zs k k (Nat.le_refl _)] at hg
      have hk2 : (k : Int) < (k : Int) + 1 := by omega
      go_wp2_with fail
      refine wp_region_g 14 (by kernel_rfl) ?_
      refine AllC.head 0 13 (fuel := 3) (by first | exact fun h k => Grew.trans h k | exact fun h k => cls_grew h k) (grew_drew _) (by rfl) (by kernel_rfl) ?_
      simp only [List.take_succ_cons, List.take_zero, List.drop_succ_cons, List.drop_zero]
      repeat (first
        | (refine HeadC.val (by rfl) ?_
           apply Exists.intro
           refine ⟨fun w' hw' => ?_, ?_⟩
           · (have hf_0 := cell_up hw' hc; have hf_1 := cell_up hw' hg; (go_simp) <;> (try go_ints) <;> with_reducible rfl)
           try simp only [Act.put, List.setIfInBounds_toArray, List.set_cons_zero, List.set_cons_succ])
        | (refine HeadC.call (by rfl) ?_
           apply Exists.intro; apply Exists.intro
           refine ⟨fun w' hw' => ?_, ?_⟩
           · (have hf_0 := cell_up hw' hc; have hf_1 := cell_up hw' hg; (go_simp) <;> first | (refine ⟨?_, ?_⟩ <;> with_reducible rfl) | with_reducible rfl)
           apply Exists.intro
           refine ⟨fun w' hw' => ?_, ?_⟩
           · (first | exact grew_same (mul_any _ _ hf0 hf1 (by omega) (by omega) _) | exact grew_same (plus_any _ _ m0 (by omega) (by omega) (by omega) _))
           try simp only [Act.put, List.setIfInBounds_toArray, List.set_cons_zero, List.set_cons_succ])
        | (refine HeadC.shut (by rfl) ?_
           try simp only [Act.put, List.setIfInBounds_toArray, List.set_cons_zero, List.set_cons_succ]))
      refine HeadC.nil ?_
      refine AllC.one 13 (by kernel_rfl) rfl ?_
      intro wg hg K hK
      go_simp
      refine hK.out _ _ (((grew_drew _).trans hg).trans (grew_alloc _ _)) ?_
      clear hK K
      try simp only [Act.put, List.setIfInBounds_toArray, List.set_cons_zero, List.set_cons_succ]
      have hwg : Grew wr wg := (grew_drew _).trans hg
      refine AllC.tail 14 (by rfl) (by kernel_rfl) ?_
      intro wt hwt
      simp only [List.drop_succ_cons, List.drop_zero]
      have hwt' := hwg.trans ((grew_alloc wg _).trans hwt)
      have hnew := ((Blk.new wg 22 _).of hwt).row
      have hown' := own_below hown hwt'
      have hsz := hwt'.size
      have hbs := hb.size
      have HV := Lib.hid (show fadd (fmul (sumZ (zs.take k)) 747382712868975713) (zs[k] + 1) = sumZ (zs.take (k + 1)) by rw [HS.out]; rfl)
      go_wp2_with (at_builtin; refine wpList_append_row rfl (.tmp 12) (.tmp 25) rfl w.heap.size elem_u64 (by rfl) hown' _ (by rfl) (by rfl) hnew (by simp [Value.oneCell']) (by unfold maxLen; omega) (by omega) (by omega) ?_; intro A1 cap1 w1 hown1 hg1 _)
      obtain ⟨g1, c1, hv1, _, _⟩ := hown1.form (by omega)
      injection hv1 with hA hn hc1
      subst hA hc1
      go_wp2_with fail
      go_roundw
      case rel =>
        refine ⟨⟨k + 1, g1, cap1, by omega, by go_num, rfl, ?_⟩, (hb.trans (hwt'.mono hbs)).trans (below_grown hg1 (by omega) (own_lt hown'))⟩
        rw [← prefU_snoc, List.map_append, List.map_singleton, ← HV.out]
        exact hown1
      case measure => simp [intOf]; omega
    · go_wp2_with fail
      go_ret
      have e : k = zs.length := by omega
      subst e
      rw [prefU_length]
      exact ⟨_, _, by simp [go_sem], hown, hb⟩

end Go.Proofs.Ytadldlijmnohhaa
