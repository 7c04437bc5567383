/-
  stockyardlaw23.RollingAnew returns true, for byte strings of at most 1048576 bytes.
-/
import Derived.Test.YtkcbdgdhcafcpaaRolled
namespace Go.Proofs.Ytkcbdgdhcafcpaa
set_option linter.unusedVariables false
set_option linter.unusedSimpArgs false
set_option linter.unnecessarySimpa false
open Go.RowKit
attribute [local go_sem ↓] Go.wp_at_zero Go.wp_at_succ

set_option maxHeartbeats 1000000 in
theorem lawRAnew_any (v : Int) (A1 : Option Addr) (cap1 : Nat) (xs : List Int) (A : Option Addr) (cap : Nat) (zs : List Int) (w : World) (v0 : -9223372036854775808 ≤ v) (v1 : v ≤ 9223372036854775807)
    (hx : Row w w.heap.size A1 (xs.map (.int .u8))) (zx : ∀ z ∈ xs, 0 ≤ z ∧ z ≤ 255) (mx : xs.length ≤ 1048576) (hr : Row w w.heap.size A (zs.map (.int .u8))) (hz : ∀ z ∈ zs, 0 ≤ z ∧ z ≤ 255) (hm : zs.length ≤ 1048576) :
    Calls Try.prog 4 #[.int .i64 v, .slice A1 xs.length cap1, .slice A zs.length cap] w fun e w' => e = .returned (.bool true) ∧ Below w.heap.size w w' := by
  have Hz := Lib.hid hz
  have Zx := Lib.hid zx
  clear hz zx
  go_enter Try.func4, Try.ntmps4
  go_wp2_with fail
  refine (size23_any v v0 v1 _).mono ?_
  rintro e w0 ⟨n, rfl, n0, n1, hn, rfl⟩
  go_wp2_with fail
  refine (pushed_any n A1 cap1 _ xs _ n0 n1 hx (Nat.le_refl _) Zx.out (by omega)).mono ?_
  rintro e w1 ⟨g, rfl, hR, hg0, hb⟩
  have hb1 : Grew w w1 := hb
  have hs1 := hb.size
  clear hb
  go_wp2_with fail
  refine (size23_any v v0 v1 _).mono ?_
  rintro e w0 ⟨n', rfl, _, _, hn', rfl⟩
  obtain rfl : n' = n := by omega
  clear hn hn'
  go_wp2_with fail
  refine (rSums_ok n' A cap _ zs _ n0 n1 (hr.below hb1 (Nat.le_refl _)) hb1.size Hz.out hm).mono ?_
  rintro e w2 ⟨gs, rfl, hown, hb⟩
  replace hR := hR.of hb
  replace hb1 : Grew w w2 := Grew.trans hb1 hb
  clear hb
  go_wp2_with fail
  refine (known23_any _).mono ?_
  rintro e w3 ⟨rfl, hb⟩
  replace hown := own_below hown hb
  replace hR := hR.of hb
  replace hb1 : Grew w w3 := Grew.trans hb1 hb
  clear hb
  go_wp2_with fail
  have hne : gs ≠ g := fun h => hR.ne_own hown (by decide) (by rw [h]; rfl)
  refine (rReset_any g n' _ _ hR).mono ?_
  clear hR
  rintro e w4 ⟨rfl, hR, hch⟩
  have HS := Lib.hid (fun k (h : k < zs.length) => winSums_at n' zs k h)
  have HL := Lib.hid (winSums_length n' zs)
  replace hown := own_ch hown hch (fun b hb' => by
    have : gs = b := by simpa [Value.ownBlock] using hb'
    show ¬ b = g
    omega)
  have hb4 : Below w.heap.size w w4 := Below.trans (B := w.heap.size) hb1 (hch.below hb1.size (fun i hi => by rw [hi]; exact hg0))
  have hR0 : Rol w4 g n' (lastN n' (zs.take 0)) := by rw [List.take_zero, lastN_nil]; exact hR
  clear hR hch hb1
  go_wp2_with fail
  go_loopw [10] (fun i wr => (∃ k : Nat, k ≤ zs.length ∧ i = .int .i64 k ∧ Rol wr g n' (lastN n' (zs.take k)) ∧ wr.ownsRow w.heap.size 33 1 (.slice (some ⟨gs, 0, none⟩) zs.length zs.length) zs.length ((winSums n' zs).map (.int .u64))) ∧ Below w.heap.size w wr) (fun i _ => zs.length - (intOf i).toNat)
  case atStart => exact ⟨⟨0, Nat.zero_le _, rfl, hR0, own_mono hown hs1⟩, hb4⟩
  case round =>
    clear hown hR0 hb4
    obtain ⟨⟨k, hk, rfl, hR, hown⟩, hb⟩ := hrel
    by_cases hlt : k < zs.length
    · obtain ⟨ad, rfl, hbl, hc⟩ := (hr.below hb (Nat.le_refl _)).at_ (k := k) (by simpa using hlt)
      rw [List.getElem_map] at hc
      have hbd := elem_bd Hz.out hlt
      have HP := Lib.hid (lastN_take_push n' zs k hlt)
      have hc2 := hown.cellAt k (by omega)
      rw [List.getElem?_eq_getElem (by rw [List.length_map, HL.out]; omega), List.getElem_map, HS.out k hlt] at hc2
      have hk1 : (k : Int) < (zs.length : Int) := by omega
      have HA : Hid (¬ (ad.add k).block = g) := Lib.hid (by rw [add_block]; omega)
      have HC := Lib.hid (fun W (h : Rol W g n' (lastN n' (zs.take k))) => push_any g n' (lastN n' (zs.take k)) zs[k] W h hbd.1 hbd.2)
      rw [HP.out] at HC
      go_wp2_with fail
      refine wp_region_cls (Ch (At g) wr) 11 (by kernel_rfl) ?_
      have hc0 := (Ch.refl (At g) wr).drew
      refine AllC.head 0 5 (fuel := 6) (by first | exact fun h k => Grew.trans h k | exact fun h k => cls_grew h k) (hc0) (by rfl) (by kernel_rfl) ?_
      simp only [List.take_succ_cons, List.take_zero, List.drop_succ_cons, List.drop_zero]
      repeat (first
        | (refine HeadC.val (by rfl) ?_
           apply Exists.intro
           refine ⟨fun w' hw' => ?_, ?_⟩
           · (have hf_0 := hw'.cell hc HA.out; (go_simp) <;> (try go_ints) <;> with_reducible rfl)
           try simp only [Act.put, List.setIfInBounds_toArray, List.set_cons_zero, List.set_cons_succ])
        | (refine HeadC.shut (by rfl) ?_
           try simp only [Act.put, List.setIfInBounds_toArray, List.set_cons_zero, List.set_cons_succ]))
      refine HeadC.nil ?_
      refine AllC.head 6 4 (fuel := 2) (by first | exact fun h k => Grew.trans h k | exact fun h k => cls_grew h k) (hc0) (by rfl) (by kernel_rfl) ?_
      simp only [List.take_succ_cons, List.take_zero, List.drop_succ_cons, List.drop_zero]
      repeat (first
        | (refine HeadC.val (by rfl) ?_
           apply Exists.intro
           refine ⟨fun w' hw' => ?_, ?_⟩
           · (have hf_0 := hw'.cell hc2 hne; (go_simp) <;> (try go_ints) <;> with_reducible rfl)
           try simp only [Act.put, List.setIfInBounds_toArray, List.set_cons_zero, List.set_cons_succ])
        | (refine HeadC.shut (by rfl) ?_
           try simp only [Act.put, List.setIfInBounds_toArray, List.set_cons_zero, List.set_cons_succ]))
      refine HeadC.nil ?_
      refine AllC.one 5 (by kernel_rfl) rfl ?_
      intro wg hg K hK
      go_simp
      have hg' : Grew wr wg := (grew_drew _).trans hg
      refine (HC.out wg (hR.of hg')).mono ?_
      rintro e w5 ⟨rfl, hR5, hch⟩
      have hc5 : Ch (At g) wr w5 := (Ch.of_below hg').trans hch
      refine hK.out _ _ hc5 ?_
      clear hK K HC hch hg hg' hR
      try simp only [Act.put, List.setIfInBounds_toArray, List.set_cons_zero, List.set_cons_succ]
      refine AllC.head 10 1 (fuel := 0) (by first | exact fun h k => Grew.trans h k | exact fun h k => cls_grew h k) (hc5) (by rfl) (by kernel_rfl) ?_
      simp only [List.take_succ_cons, List.take_zero, List.drop_succ_cons, List.drop_zero]
      repeat (first
        | (refine HeadC.val (by rfl) ?_
           apply Exists.intro
           refine ⟨fun w' hw' => ?_, ?_⟩
           · ((go_simp) <;> (try go_ints) <;> with_reducible rfl)
           try simp only [Act.put, List.setIfInBounds_toArray, List.set_cons_zero, List.set_cons_succ])
        | (refine HeadC.shut (by rfl) ?_
           try simp only [Act.put, List.setIfInBounds_toArray, List.set_cons_zero, List.set_cons_succ]))
      refine HeadC.nil ?_
      refine AllC.done (by kernel_rfl) (fun w6 h6 => ?_)
      go_wp2
      go_roundw
      case rel =>
        have hch6 := hc5.next h6
        refine ⟨⟨k + 1, by omega, by go_num, hR5.of h6, own_ch hown hch6 (fun b hb' => by
          have : gs = b := by simpa [Value.ownBlock] using hb'
          show ¬ b = g
          omega)⟩, hb.trans (hch6.below hb.size (fun i hi => by rw [hi]; exact hg0))⟩
      case measure => simp [intOf]; omega
    · go_wp2_with fail
      go_ret
      exact ⟨rfl, hb⟩

end Go.Proofs.Ytkcbdgdhcafcpaa
