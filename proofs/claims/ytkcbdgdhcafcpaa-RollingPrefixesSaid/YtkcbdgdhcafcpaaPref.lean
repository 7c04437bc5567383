/-
  fingerprint.Prefixes and the reference's: the fingerprints of all prefixes.
-/
import Derived.Test.YtkcbdgdhcafcpaaSum
import Derived.Test.YtkcbdgdhcafcpaaOwn
import Derived.Test.YtkcbdgdhcafcpaaRegC
import Derived.OwnWalk
import Derived.Deep.OwnRows
namespace Go.Proofs.Ytkcbdgdhcafcpaa
set_option linter.unusedVariables false
set_option linter.unusedSimpArgs false
set_option linter.unnecessarySimpa false
open Go.RowKit Go.Lib
attribute [local go_sem ↓] Go.wp_at_zero Go.wp_at_succ

/-- the fingerprints of the prefixes up to the k-th, and 0 for the others -/
def prefK (zs : List Int) (k : Nat) : List Int := (List.range (zs.length + 1)).map fun j => if j ≤ k then sumZ (zs.take j) else 0
/-- the fingerprints of the first prefixes -/
def prefU (zs : List Int) (k : Nat) : List Int := (List.range (k + 1)).map fun j => sumZ (zs.take j)
theorem prefK_length (zs : List Int) (k : Nat) : (prefK zs k).length = zs.length + 1 := by simp [prefK]
theorem prefU_length (zs : List Int) (k : Nat) : (prefU zs k).length = k + 1 := by simp [prefU]
theorem prefK_full (zs : List Int) : prefK zs zs.length = prefU zs zs.length := by
  unfold prefK prefU
  refine List.map_congr_left fun j hj => ?_
  rw [if_pos (by have := List.mem_range.1 hj; omega)]
theorem prefK_zero (zs : List Int) : prefK zs 0 = List.replicate (zs.length + 1) 0 := by
  unfold prefK
  refine List.ext_getElem (by simp) fun j h1 h2 => ?_
  simp only [List.getElem_map, List.getElem_range, List.getElem_replicate]
  by_cases h : j ≤ 0
  · have : j = 0 := by omega
    subst this
    rfl
  · rw [if_neg h]
theorem prefK_get (zs : List Int) (k j : Nat) (h : j < (prefK zs k).length) : (prefK zs k)[j] = if j ≤ k then sumZ (zs.take j) else 0 := by simp [prefK]
theorem prefK_set (zs : List Int) (k : Nat) (h : k < zs.length) : (prefK zs k).set (k + 1) (sumZ (zs.take (k + 1))) = prefK zs (k + 1) := by
  refine List.ext_getElem (by simp [prefK]) fun j h1 h2 => ?_
  rw [List.getElem_set, prefK_get, prefK_get]
  by_cases e : k + 1 = j
  · subst e
    rw [if_pos rfl, if_pos (Nat.le_refl _)]
  · rw [if_neg e]
    by_cases l : j ≤ k
    · rw [if_pos l, if_pos (by omega)]
    · rw [if_neg l, if_neg (by omega)]
theorem prefK_at (zs : List Int) (k : Nat) (h : k < zs.length) : (prefK zs k)[k]'(by rw [prefK_length]; omega) = sumZ (zs.take k) := by
  simp [prefK]
theorem prefU_snoc (zs : List Int) (k : Nat) : prefU zs k ++ [sumZ (zs.take (k + 1))] = prefU zs (k + 1) := by
  unfold prefU
  rw [List.range_succ (n := k + 1), List.map_append]
  rfl
theorem prefU_at (zs : List Int) (k j : Nat) (h : j ≤ k) : (prefU zs k)[j]'(by rw [prefU_length]; omega) = sumZ (zs.take j) := by
  simp [prefU]

set_option maxHeartbeats 1000000 in
theorem prefixes_any (A : Option Addr) (cap B : Nat) (zs : List Int) (w : World) (hr : Row w B A (zs.map (.int .u8))) (hB : B ≤ w.heap.size) (hz : ∀ z ∈ zs, 0 ≤ z ∧ z ≤ 255) (hm : zs.length ≤ 1048576) :
    Calls Try.prog 30 #[.slice A zs.length cap] w fun e w' => ∃ A' cap', e = .returned (.slice A' (prefU zs zs.length).length cap') ∧
      w'.ownsRow w.heap.size 33 1 (.slice A' (prefU zs zs.length).length cap') (prefU zs zs.length).length ((prefU zs zs.length).map (.int .u64)) ∧ Below w.heap.size w w' := by
  have Hz := Lib.hid hz
  clear hz
  have hwr : IntKind.i64.wrap ((zs.length : Int) + 1) = ((zs.length + 1 : Nat) : Int) := by rw [Go.IntWalk.i64_in] <;> omega
  obtain ⟨i0, hi, hz0, hz1, hz2⟩ := info_parts (show (Try.prog.info? 33).map (fun i => (i.zero, i.size, i.bytes)) = some (some (.int .u64 0), 1, 8) from rfl)
  go_enter Try.func30, Try.ntmps30
  go_wp2_with (at_make; refine wpList_make_full _ rfl (.tmp 8) (.tmp 8) 23 rfl w.heap.size 33 i0 (.int .u64 0) 1 Try.underlying23 hi hz0 hz1 .i64 .i64 _ _ (zs.length + 1) rfl rfl (by simp) (by simp) (by rw [hz2]; omega) (by unfold maxLen; omega) (Nat.le_refl _) ?_)
  intro w1 hown hgrow
  simp only [Value.cells, Nat.mul_one, toList_madeCells_one] at hown
  rw [show List.replicate (zs.length + 1) (Value.int .u64 0) = (prefK zs 0).map (.int .u64) by rw [prefK_zero, List.map_replicate]] at hown
  have hb1 : Below w.heap.size w w1 := (Below.refl _ _).grown hgrow (Nat.le_refl _) (by simp)
  go_wp2_with fail
  go_loopw [12] (fun i wr => (∃ k : Nat, k ≤ zs.length ∧ i = .int .i64 k ∧ wr.ownsRow w.heap.size 33 1 (.slice (some ⟨w.heap.size, 0, none⟩) (zs.length + 1) (zs.length + 1)) (zs.length + 1) ((prefK zs k).map (.int .u64))) ∧ Below w.heap.size w wr) (fun i _ => zs.length - (intOf i).toNat)
  case atStart => exact ⟨⟨0, Nat.zero_le _, rfl, hown⟩, hb1⟩
  case round =>
    clear hown hb1 hgrow
    obtain ⟨⟨k, hk, rfl, hown⟩, hb⟩ := hrel
    by_cases hlt : k < zs.length
    · obtain ⟨ad, rfl, hbl, hc⟩ := (hr.below hb hB).at_ (k := k) (by simpa using hlt)
      rw [List.getElem_map] at hc
      have hbd := elem_bd Hz.out hlt
      have HS := Lib.hid (sumZ_take zs k hlt)
      have hf := sumZ_fp (zs.take k)
      have hf0 := hf.1
      have hf1 := hf.2
      clear hf
      have m0 := fmul_lo (sumZ (zs.take k)) 747382712868975713
      have m1 := fmul_hi (sumZ (zs.take k)) 747382712868975713
      have hg := hown.cellAt k (by omega)
      rw [List.getElem?_eq_getElem (by rw [List.length_map, prefK_length]; omega), List.getElem_map, prefK_at zs k hlt] at hg
      have hi1 : IntKind.i64.wrap ((k : Int) + 1) = (k : Int) + 1 := by rw [Go.IntWalk.i64_in] <;> omega
      have hi2 : ((k : Int) + 1).toNat = k + 1 := by omega
      have hk1 : (k : Int) + 1 < (zs.length : Int) + 1 := by omega
      have hk2 : (k : Int) < (zs.length : Int) + 1 := by omega
      have hk3 : (0 : Int) ≤ (k : Int) + 1 := by omega
      have hg1 := hown.cellAt (k + 1) (by omega)
      rw [List.getElem?_eq_getElem (by rw [List.length_map, prefK_length]; omega), List.getElem_map] at hg1
      have hfz := hown.frozenAt (k + 1)
      go_wp2_with fail
      refine (multiply_any _ _ hf0 hf1 (by omega) (by omega) _).mono ?_
      rintro e w' ⟨rfl, rfl⟩
      go_wp2_with fail
      refine (add_any _ _ m0 m1 (by omega) (by omega) _).mono ?_
      rintro e w' ⟨rfl, rfl⟩
      go_wp2_with fail
      have hst := hown.stored (k + 1) (.int .u64 (sumZ (zs.take (k + 1))))
      have HV := Lib.hid (show fadd (fmul (sumZ (zs.take k)) 747382712868975713) (zs[k] + 1) = sumZ (zs.take (k + 1)) by rw [HS.out]; rfl)
      go_roundw
      case rel =>
        refine ⟨⟨k + 1, by omega, by go_num, ?_⟩, ?_⟩
        · rw [HV.out, ← prefK_set zs k hlt, List.map_set]
          exact hst.1
        · exact hb.setCell (Nat.le_refl _) _
      case measure => simp [intOf]; omega
    · go_wp2_with fail
      go_ret
      have e : k = zs.length := by omega
      subst e
      rw [prefK_full] at hown
      rw [prefU_length]
      exact ⟨some ⟨w.heap.size, 0, none⟩, zs.length + 1, by simp [go_sem], hown, hb⟩

end Go.Proofs.Ytkcbdgdhcafcpaa
