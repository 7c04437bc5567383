/-
  stockyardlaw23.known, size, pushed.
-/
import Derived.Test.YtkcbdgdhcafcpaaRSums
namespace Go.Proofs.Ytkcbdgdhcafcpaa
set_option linter.unusedVariables false
set_option linter.unusedSimpArgs false
set_option linter.unnecessarySimpa false
open Go.RowKit
attribute [local go_sem ↓] Go.wp_at_zero Go.wp_at_succ

theorem known23_sums : winSums 2 [0, 1, 0] = [1, 747382712868975715, 1494765425737951427] := by decide
theorem rSums_lit (n : Nat) (A : Option Addr) (len cap B : Nat) (zs : List Int) (w : World) (hl : zs.length = len) (h1 : 1 ≤ n) (h2 : n ≤ 64) (hr : Row w B A (zs.map (.int .u8))) (hB : B ≤ w.heap.size) (hz : ∀ z ∈ zs, 0 ≤ z ∧ z ≤ 255) (hm : len ≤ 1048576) :
    Calls Try.prog 11 #[.int .i64 n, .slice A len cap] w fun e w' => ∃ g, e = .returned (.tuple #[.slice (some ⟨g, 0, none⟩) len len, .int .i64 0]) ∧
      w'.ownsRow w.heap.size 33 1 (.slice (some ⟨g, 0, none⟩) len len) len ((winSums n zs).map (.int .u64)) ∧ Below w.heap.size w w' := by
  subst hl; exact rSums_ok n A cap B zs w h1 h2 hr hB hz hm

set_option maxHeartbeats 1000000 in
theorem known23_any (w : World) : Calls Try.prog 14 #[] w fun e w' => e = .returned (.bool true) ∧ Below w.heap.size w w' := by
  go_enter Try.func14, Try.ntmps14
  go_wp2_with fail
  refine (rSums_lit 2 _ 3 3 (w.heap.size + 1) [0, 1, 0] _ rfl (by omega) (by omega) (Blk.row (g := w.heap.size) (t := 5) (cs := #[.int .u8 0, .int .u8 1, .int .u8 0]) (Blk.new w _ _) |>.more (by simp)) (by simp) (by simp) (by omega)).mono ?_
  rintro e w1 ⟨g, rfl, hown, hb⟩
  rw [known23_sums] at hown
  have c0 := hown.cellAt 0 (by omega)
  have c1 := hown.cellAt 1 (by omega)
  have c2 := hown.cellAt 2 (by omega)
  simp only [List.map_cons, List.map_nil, List.getElem?_cons_zero, List.getElem?_cons_succ] at c0 c1 c2
  clear hown
  have hb1 : Below w.heap.size w w1 := ((Below.refl _ w).alloc (Nat.le_refl _) _).trans (hb.mono (by simp))
  clear hb
  go_wp2_with fail
  go_ret
  exact ⟨rfl, hb1⟩

theorem size23_any (v : Int) (h0 : -9223372036854775808 ≤ v) (h1 : v ≤ 9223372036854775807) (w : World) :
    Calls Try.prog 12 #[.int .i64 v] w fun e w' => ∃ n : Nat, e = .returned (.int .i64 n) ∧ 1 ≤ n ∧ n ≤ 64 ∧ foldI v 64 + 1 = n ∧ w = w' := by
  have f0 := foldI_lo v 64
  have f1 := foldI_hi v 64 (by omega)
  go_enter Try.func12, Try.ntmps12
  go_wp2_with fail
  refine (fold_any _ _ h0 h1 (by omega) _).mono ?_
  rintro e wn ⟨rfl, rfl⟩
  go_wp2_with fail
  go_ret
  refine ⟨(foldI v 64 + 1).toNat, ret_i64 (by omega), by omega, by omega, by omega, rfl⟩

set_option maxHeartbeats 1000000 in
theorem pushed_any (n : Nat) (A : Option Addr) (cap B : Nat) (zs : List Int) (w : World) (h1 : 1 ≤ n) (h2 : n ≤ 64) (hr : Row w B A (zs.map (.int .u8))) (hB : B ≤ w.heap.size) (hz : ∀ z ∈ zs, 0 ≤ z ∧ z ≤ 255) (hm : zs.length ≤ 9223372036854775807) :
    Calls Try.prog 16 #[.int .i64 n, .slice A zs.length cap] w fun e w' => ∃ g, e = .returned (.pointer (some ⟨g, 0, none⟩)) ∧ Rol w' g n (lastN n zs) ∧ w.heap.size ≤ g ∧ Below w.heap.size w w' := by
  have Hz := Lib.hid hz
  clear hz
  go_enter Try.func16, Try.ntmps16
  go_wp2_with fail
  refine (rNew_ok n _ h1 h2).mono ?_
  rintro e w1 ⟨g, rfl, hR, hg, hb1⟩
  have hR1 : Rol w1 g n (lastN n (zs.take 0)) := by rw [List.take_zero, lastN_nil]; exact hR
  clear hR
  go_wp2_with fail
  go_loopw [7] (fun i wr => (∃ k : Nat, k ≤ zs.length ∧ i = .int .i64 k ∧ Rol wr g n (lastN n (zs.take k))) ∧ Below w.heap.size w wr) (fun i _ => zs.length - (intOf i).toNat)
  case atStart => exact ⟨⟨0, Nat.zero_le _, rfl, hR1⟩, hb1⟩
  case round =>
    clear hR1 hb1
    obtain ⟨⟨k, hk, rfl, hR⟩, hb⟩ := hrel
    by_cases hlt : k < zs.length
    · obtain ⟨ad, rfl, hbl, hc⟩ := (hr.below hb hB).at_ (k := k) (by simpa using hlt)
      rw [List.getElem_map] at hc
      have hbd := elem_bd Hz.out hlt
      have HP := Lib.hid (lastN_take_push n zs k hlt)
      have HC := Lib.hid (fun W => push_any g n (lastN n (zs.take k)) zs[k] W)
      go_wp2_with fail
      refine (HC.out _ hR hbd.1 hbd.2).mono ?_
      rintro e w3 ⟨rfl, hR3, hch⟩
      rw [HP.out] at hR3
      have hb3 : Below w.heap.size w w3 := hb.trans (hch.below hb.size (fun i hi => by rw [hi]; exact hg))
      go_wp2_with fail
      go_roundw
      case rel => exact ⟨⟨k + 1, by omega, by go_num, hR3⟩, hb3⟩
      case measure => simp [intOf]; omega
    · have e : zs.take k = zs := List.take_of_length_le (by omega)
      rw [e] at hR
      clear e
      go_wp2_with fail
      go_ret
      exact ⟨g, rfl, hR, hg, hb⟩

end Go.Proofs.Ytkcbdgdhcafcpaa
