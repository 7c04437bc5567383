/-
  rolling.Sums: the fingerprint of the window behind each byte.
-/
import Derived.Test.YtkcbdgdhcafcpaaRolling
import Derived.Test.YtkcbdgdhcafcpaaSum
namespace Go.Proofs.Ytkcbdgdhcafcpaa
set_option linter.unusedVariables false
set_option linter.unusedSimpArgs false
set_option linter.unnecessarySimpa false
open Go.RowKit
attribute [local go_sem ↓] Go.wp_at_zero Go.wp_at_succ

/-- the window's fingerprint behind each of the first k bytes, 0 for the others -/
def sumsK (n : Nat) (zs : List Int) (k : Nat) : List Int := (List.range zs.length).map fun i => if i < k then sumZ (lastN n (zs.take (i + 1))) else 0
/-- .. behind each byte -/
def winSums (n : Nat) (zs : List Int) : List Int := (List.range zs.length).map fun i => sumZ (lastN n (zs.take (i + 1)))
theorem sumsK_length (n : Nat) (zs : List Int) (k : Nat) : (sumsK n zs k).length = zs.length := by simp [sumsK]
theorem winSums_length (n : Nat) (zs : List Int) : (winSums n zs).length = zs.length := by simp [winSums]
theorem sumsK_zero (n : Nat) (zs : List Int) : sumsK n zs 0 = List.replicate zs.length 0 := by
  unfold sumsK
  refine List.ext_getElem (by simp) fun j h1 h2 => ?_
  simp
theorem sumsK_full (n : Nat) (zs : List Int) : sumsK n zs zs.length = winSums n zs := by
  unfold sumsK winSums
  refine List.map_congr_left fun j hj => ?_
  rw [if_pos (by have := List.mem_range.1 hj; omega)]
theorem sumsK_set (n : Nat) (zs : List Int) (k : Nat) (h : k < zs.length) : (sumsK n zs k).set k (sumZ (lastN n (zs.take (k + 1)))) = sumsK n zs (k + 1) := by
  refine List.ext_getElem (by simp [sumsK]) fun j h1 h2 => ?_
  rw [List.getElem_set]
  simp only [sumsK, List.getElem_map, List.getElem_range]
  by_cases e : k = j
  · subst e; rw [if_pos rfl, if_pos (by omega)]
  · rw [if_neg e]
    by_cases l : j < k
    · rw [if_pos l, if_pos (by omega)]
    · rw [if_neg l, if_neg (by omega)]
theorem winSums_at (n : Nat) (zs : List Int) (i : Nat) (h : i < zs.length) : (winSums n zs)[i]'(by rw [winSums_length]; exact h) = sumZ (lastN n (zs.take (i + 1))) := by simp [winSums]
theorem winSums_u64 (n : Nat) (zs : List Int) : ∀ z ∈ winSums n zs, 0 ≤ z ∧ z < 18446744073709551616 := by
  intro z hz
  obtain ⟨j, _, rfl⟩ := List.mem_map.1 hz
  have := sumZ_fp (lastN n (zs.take (j + 1)))
  unfold Fp at this
  omega

set_option maxHeartbeats 1000000 in
theorem rSums_no (n : Int) (A : Option Addr) (len cap : Nat) (w : World) (h : ¬ (1 ≤ n ∧ n ≤ 64)) :
    Calls Try.prog 11 #[.int .i64 n, .slice A len cap] w fun e w' => e = .returned (.tuple #[.slice none 0 0, .int .i64 230]) ∧ w = w' := by
  go_enter Try.func11, Try.ntmps11
  go_wp2_with fail
  refine (rNew_no n _ h).mono ?_
  rintro e wn ⟨rfl, rfl⟩
  go_wp2_with fail
  go_ret2
  exact ⟨rfl, rfl⟩

set_option maxHeartbeats 1000000 in
theorem rSums_ok (n : Nat) (A : Option Addr) (cap B : Nat) (zs : List Int) (w : World) (h1 : 1 ≤ n) (h2 : n ≤ 64) (hr : Row w B A (zs.map (.int .u8))) (hB : B ≤ w.heap.size) (hz : ∀ z ∈ zs, 0 ≤ z ∧ z ≤ 255) (hm : zs.length ≤ 1048576) :
    Calls Try.prog 11 #[.int .i64 n, .slice A zs.length cap] w fun e w' => ∃ g, e = .returned (.tuple #[.slice (some ⟨g, 0, none⟩) zs.length zs.length, .int .i64 0]) ∧
      w'.ownsRow w.heap.size 33 1 (.slice (some ⟨g, 0, none⟩) zs.length zs.length) zs.length ((winSums n zs).map (.int .u64)) ∧ Below w.heap.size w w' := by
  have Hz := Lib.hid hz
  clear hz
  have hmf : ∀ (fn : Fn) (first cap : Array Value) (w : World), (Instr.makeFunc fn first cap).run Try.prog w = .ok (.func fn first cap) w := fun _ _ _ _ => rfl
  obtain ⟨i0, hi, hz0, hz1, hz2⟩ := info_parts (show (Try.prog.info? 33).map (fun i => (i.zero, i.size, i.bytes)) = some (some (.int .u64 0), 1, 8) from rfl)
  go_enter Try.func11, Try.ntmps11
  go_wp2_with fail
  refine (rNew_ok n _ h1 h2).mono ?_
  rintro e w1 ⟨g, rfl, hR, hg, hb1⟩
  have hb1s := hb1.size
  have hgl := hR.lt
  go_wp2_with (at_make; refine wpList_make_full _ rfl (.tmp 23) (.tmp 23) 23 rfl w.heap.size 33 i0 (.int .u64 0) 1 Try.underlying23 hi hz0 hz1 .i64 .i64 _ _ zs.length rfl rfl rfl rfl (by rw [hz2]; omega) (by unfold maxLen; omega) hb1s ?_)
  intro w2 hown hgrow
  simp only [Value.cells, Nat.mul_one, toList_madeCells_one] at hown
  rw [show List.replicate zs.length (Value.int .u64 0) = (sumsK n zs 0).map (.int .u64) by rw [sumsK_zero, List.map_replicate]] at hown
  have hb2 : Below w.heap.size w w2 := hb1.grown hgrow hb1s (by simp)
  have hR2 : Rol w2 g n (lastN n (zs.take 0)) := by
    rw [List.take_zero, lastN_nil]
    exact hR.ch (S := NoB) ⟨hgrow.os, hgrow.tape, hgrow.output, hgrow.size, fun i hi _ => hgrow.block i hi (by simp)⟩ (fun h => h)
  generalize w1.heap.size = gs at *
  clear hgrow hR hb1
  go_wp2_with fail
  go_loopw [27] (fun i wr => (∃ k : Nat, k ≤ zs.length ∧ i = .int .i64 k ∧ Rol wr g n (lastN n (zs.take k)) ∧ wr.ownsRow w.heap.size 33 1 (.slice (some ⟨gs, 0, none⟩) zs.length zs.length) zs.length ((sumsK n zs k).map (.int .u64))) ∧ Below w.heap.size w wr) (fun i _ => zs.length - (intOf i).toNat)
  case atStart => exact ⟨⟨0, Nat.zero_le _, rfl, hR2, hown⟩, hb2⟩
  case round =>
    clear hown hb2 hR2
    obtain ⟨⟨k, hk, rfl, hR, hown⟩, hb⟩ := hrel
    by_cases hlt : k < zs.length
    · obtain ⟨ad, rfl, hbl, hc⟩ := (hr.below hb hB).at_ (k := k) (by simpa using hlt)
      rw [List.getElem_map] at hc
      have hbd := elem_bd Hz.out hlt
      have HP := Lib.hid (lastN_take_push n zs k hlt)
      have hk1 : (k : Int) < (zs.length : Int) := by omega
      have HC := Lib.hid (fun W => push_any g n (lastN n (zs.take k)) zs[k] W)
      go_wp2_with fail
      refine (HC.out _ hR hbd.1 hbd.2).mono ?_
      rintro e w3 ⟨rfl, hR3, hch⟩
      rw [HP.out] at hR3 ⊢
      have hb3 : Below w.heap.size w w3 := hb.trans (hch.below hb.size (fun i hi => by rw [hi]; exact hg))
      have hown3 := own_ch hown hch (fun b hb' => by
        have : gs = b := by simpa [Value.ownBlock] using hb'
        show ¬ b = g
        omega)
      have hg1 := hown3.cellAt k (by omega)
      rw [List.getElem?_eq_getElem (by rw [List.length_map, sumsK_length]; omega), List.getElem_map] at hg1
      have hfz := hown3.frozenAt k
      have hst := hown3.stored k (.int .u64 (sumZ (lastN n (zs.take (k + 1)))))
      have HST := Lib.hid hst
      clear hst HC
      go_wp2_with fail
      go_roundw
      case rel =>
        refine ⟨⟨k + 1, by omega, by go_num, hR3.ch (Ch.of_grown HST.out.2) (by show ¬ g = gs; omega), ?_⟩, ?_⟩
        · rw [← sumsK_set n zs k hlt, List.map_set]
          exact HST.out.1
        · exact hb3.setCell (by show w.heap.size ≤ gs; omega) _
      case measure => simp [intOf]; omega
    · have e : k = zs.length := by omega
      subst e
      rw [sumsK_full] at hown
      go_wp2_with fail
      go_ret2
      exact ⟨gs, rfl, hown, hb⟩

end Go.Proofs.Ytkcbdgdhcafcpaa
