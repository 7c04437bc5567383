/-
  stockyardlaw22.FingerprintConcat returns true.
-/
import Derived.Test.YtadldlijmnohhaaRing
import Derived.Test.YtadldlijmnohhaaJoin
import Derived.Test.YtadldlijmnohhaaJoined
import Derived.Test.YtadldlijmnohhaaOf
import Derived.Test.YtadldlijmnohhaaRegR
import Derived.Test.YtadldlijmnohhaaKnown22
namespace Go.Proofs.Ytadldlijmnohhaa
set_option linter.unusedVariables false
set_option linter.unusedSimpArgs false
set_option linter.unnecessarySimpa false
open Go.RowKit
attribute [local go_sem ↓] Go.wp_at_zero Go.wp_at_succ

set_option maxHeartbeats 1000000 in
theorem lawConcat_any (A1 : Option Addr) (cap1 : Nat) (x : List Int) (A2 : Option Addr) (cap2 : Nat) (y : List Int) (w : World)
    (hx : Row w w.heap.size A1 (x.map (.int .u8))) (zx : ∀ z ∈ x, 0 ≤ z ∧ z ≤ 255) (mx : x.length ≤ 140737488355328) (hy : Row w w.heap.size A2 (y.map (.int .u8))) (zy : ∀ z ∈ y, 0 ≤ z ∧ z ≤ 255) (my : y.length ≤ 140737488355328) :
    Calls Try.prog 11 #[.slice A1 x.length cap1, .slice A2 y.length cap2] w fun e w' => e = .returned (.bool true) ∧ Below w.heap.size w w' := by
  have Zx := Lib.hid zx
  have Zy := Lib.hid zy
  clear zx zy
  by_cases h1 : x.length ≤ 524288
  · have g1 : ¬ (524288 < (x.length : Int)) := by omega
    by_cases h2 : y.length ≤ 524288
    · have g2 : ¬ (524288 < (y.length : Int)) := by omega
      go_enter Try.func11, Try.ntmps11
      go_wp2_with fail
      refine (of_any A1 cap1 _ x w hx (Nat.le_refl _) Zx.out (by omega)).mono ?_
      rintro e w1 ⟨rfl, hb1⟩
      have hy1 := hy.below hb1 (Nat.le_refl _)
      go_wp2_with fail
      refine (of_any A2 cap2 _ y w1 hy1 hb1.size Zy.out (by omega)).mono ?_
      rintro e w2 ⟨rfl, hb⟩
      have fr : Fr w w2 := ((Fr.mk hb1).of hb)
      clear hb hb1 hy1
      have hj : joinR (sumZ x) x.length (sumZ y) y.length = (sumZ (x ++ y), ((x ++ y).length : Int), 0) := by
        rw [joinR_ok (vld_sum (by omega)) (vld_sum (by omega)) (by omega), sumZ_append, powI_in (by omega) (by omega), List.length_append]
        simp
      have HJ := Lib.hid hj
      clear hj
      go_wp2_with fail
      refine (join_any _ _ _ _ (sumZ_fp x).1 (sumZ_fp y).1 (by omega) (by omega) _).mono ?_
      rintro e w3 ⟨rfl, hb⟩
      rw [HJ.out]
      unfold idErr
      replace fr : Fr w w3 := (by first | with_reducible exact (fr).of hb | with_reducible exact (fr.al _).of hb | with_reducible exact ((fr.al _).al _).of hb | with_reducible exact (((fr.al _).al _).al _).of hb | with_reducible exact (fr.dr).of hb | with_reducible exact ((fr.al _).dr).of hb | with_reducible exact (((fr.al _).al _).dr).of hb | with_reducible exact (fr.drN _).of hb | with_reducible exact ((fr.al _).drN _).of hb)
      clear hb
      go_wp2_with fail
      have hx1 := Bx.new w3 (sumZ (x ++ y)) ((x ++ y).length : Int)
      replace fr := fr.al (.cells #[.int .u64 (sumZ (x ++ y)), .int .i64 ((x ++ y).length : Int)] 24)
      have hlen : ((x ++ y).length : Int) = (x.length : Int) + (y.length : Int) := by rw [List.length_append]; omega
      rw [hlen] at hx1 fr
      refine wp_region_grew (by kernel_rfl) ?_
      replace hx1 := hx1.dr
      replace fr := fr.dr
      refine wpAnyG_takeL (i := 0) (v := ?_) rfl (by kernel_rfl) (by kernel_rfl) (by kernel_rfl) (by kernel_rfl) (fun _ _ _ h => h) ⟨by rfl, fun w' hw' => Or.inr ⟨?hf0, ?ha0, ?he0, ?hy0⟩⟩ ?_
      case he0 => go_simp <;> first | (refine ⟨?_, ?_⟩ <;> with_reducible rfl) | with_reducible rfl
      case hy0 => exact known22_any _
      try simp only [Act.put, List.setIfInBounds_toArray, List.set_cons_zero, List.set_cons_succ]
      refine wpAnyG_takeL (i := 1) (v := ?_) rfl (by kernel_rfl) (by kernel_rfl) (by kernel_rfl) (by kernel_rfl) (fun _ _ _ h => h) ⟨by rfl, fun w' hw' => Or.inl ?hy1⟩ ?_
      case hy1 => (obtain ⟨_, _, _, _, _⟩ := (hx1.up hw').facts; go_simp) <;> with_reducible rfl
      try simp only [Act.put, List.setIfInBounds_toArray, List.set_cons_zero, List.set_cons_succ]
      refine wpAnyG_takeL (i := 2) (v := ?_) rfl (by kernel_rfl) (by kernel_rfl) (by kernel_rfl) (by kernel_rfl) (fun _ _ _ h => h) ⟨by rfl, fun w' hw' => Or.inl ?hy2⟩ ?_
      case hy2 => (obtain ⟨_, _, _, _, _⟩ := (hx1.up hw').facts; go_simp) <;> with_reducible rfl
      try simp only [Act.put, List.setIfInBounds_toArray, List.set_cons_zero, List.set_cons_succ]
      refine wpAnyG_takeL (i := 3) (v := ?_) rfl (by kernel_rfl) (by kernel_rfl) (by kernel_rfl) (by kernel_rfl) (fun _ _ _ h => h) ⟨by rfl, fun w' hw' => Or.inl ?hy3⟩ ?_
      case hy3 => (obtain ⟨_, _, _, _, _⟩ := (hx1.up hw').facts; go_simp) <;> with_reducible rfl
      try simp only [Act.put, List.setIfInBounds_toArray, List.set_cons_zero, List.set_cons_succ]
      refine wpAnyG_takeL (i := 4) (v := ?_) rfl (by kernel_rfl) (by kernel_rfl) (by kernel_rfl) (by kernel_rfl) (fun _ _ _ h => h) ⟨by rfl, fun w' hw' => Or.inl ?hy4⟩ ?_
      case hy4 => (obtain ⟨_, _, _, _, _⟩ := (hx1.up hw').facts; go_simp) <;> with_reducible rfl
      try simp only [Act.put, List.setIfInBounds_toArray, List.set_cons_zero, List.set_cons_succ]
      refine wpAnyG_takeL (i := 5) (v := ?_) rfl (by kernel_rfl) (by kernel_rfl) (by kernel_rfl) (by kernel_rfl) (fun _ _ _ h => h) ⟨by rfl, fun w' hw' => Or.inl ?hy5⟩ ?_
      case hy5 => (obtain ⟨_, _, _, _, _⟩ := (hx1.up hw').facts; go_simp) <;> with_reducible rfl
      try simp only [Act.put, List.setIfInBounds_toArray, List.set_cons_zero, List.set_cons_succ]
      refine wpAnyG_takeL (i := 6) (v := ?_) rfl (by kernel_rfl) (by kernel_rfl) (by kernel_rfl) (by kernel_rfl) (fun _ _ _ h => h) ⟨by rfl, fun w' hw' => Or.inl ?hy6⟩ ?_
      case hy6 => (obtain ⟨_, _, _, _, _⟩ := (hx1.up hw').facts; go_simp) <;> with_reducible rfl
      try simp only [Act.put, List.setIfInBounds_toArray, List.set_cons_zero, List.set_cons_succ]
      refine wpAnyG_takeL (i := 7) (v := ?_) rfl (by kernel_rfl) (by kernel_rfl) (by kernel_rfl) (by kernel_rfl) (fun _ _ _ h => h) ⟨by rfl, fun w' hw' => Or.inl ?hy7⟩ ?_
      case hy7 => (obtain ⟨_, _, _, _, _⟩ := (hx1.up hw').facts; go_simp) <;> with_reducible rfl
      try simp only [Act.put, List.setIfInBounds_toArray, List.set_cons_zero, List.set_cons_succ]
      refine wpAnyG_takeL (i := 8) (v := ?_) rfl (by kernel_rfl) (by kernel_rfl) (by kernel_rfl) (by kernel_rfl) (fun _ _ _ h => h) ⟨by rfl, fun w' hw' => Or.inl ?hy8⟩ ?_
      case hy8 => (obtain ⟨_, _, _, _, _⟩ := (hx1.up hw').facts; go_simp) <;> with_reducible rfl
      try simp only [Act.put, List.setIfInBounds_toArray, List.set_cons_zero, List.set_cons_succ]
      refine wpAnyG_ready (rs := [9]) (by kernel_rfl) (by simp) (fun wg hg => ?_)
      replace fr := fr.up hg
      clear hg hx1
      refine AllReadyG.consL rfl (fun K hK => ?_) AllReadyG.nil
      go_simp
      refine hK.out _ _ (.inr (grew_alloc _ _)) ?_
      clear hK K
      try simp only [Act.put, List.setIfInBounds_toArray, List.set_cons_zero, List.set_cons_succ]
      refine wpAnyG_ready (rs := [10]) (by kernel_rfl) (by simp) (fun wh hg => ?_)
      have hgs : wg.heap.size + 1 ≤ wh.heap.size := by have := hg.size; simpa using this
      have hl : Row wh wh.heap.size (some ⟨wg.heap.size, 0, none⟩) [.slice A1 x.length cap1, .slice A2 y.length cap2] := ((row_new (Nat.lt_succ_self _)).below hg (by simp)).more (by omega)
      replace fr := (fr.al _).up hg
      clear hg
      have hx3 := (hx.below fr.b (Nat.le_refl _)).more fr.b.size
      have hy3 := (hy.below fr.b (Nat.le_refl _)).more fr.b.size
      refine AllReadyG.consL rfl (fun K hK => ?_) AllReadyG.nil
      go_simp
      refine (joined_two _ 2 wh.heap.size A1 A2 cap1 cap2 x y wh hl hx3 hy3 (Nat.le_refl _) (by omega)).mono ?_
      rintro e wj ⟨A', cap', rfl, hown, hb⟩
      go_simp
      refine hK.out _ _ (.inr hb) ?_
      clear hK K hl hx3 hy3
      try simp only [Act.put, List.setIfInBounds_toArray, List.set_cons_zero, List.set_cons_succ]
      replace fr := fr.of hb
      have hro := own_row hown
      clear hown hb
      refine wpAnyG_ready (rs := [11]) (by kernel_rfl) (by simp) (fun wk hg => ?_)
      replace fr := fr.up hg
      have hro' := (hro.below hg (Nat.le_refl _)).more hg.size
      clear hg hro
      refine AllReadyG.consL rfl (fun K hK => ?_) AllReadyG.nil
      go_simp
      have hof := of_any A' cap' _ (x ++ y) wk hro' (Nat.le_refl _) (fun z hz => (List.mem_append.1 hz).elim (Zx.out z) (Zy.out z)) (by rw [List.length_append]; omega)
      rw [hlen, List.length_append] at hof
      refine hof.mono ?_
      rintro e wl ⟨rfl, hb⟩
      go_simp
      refine hK.out _ _ (.inr hb) ?_
      clear hK K hof hro'
      try simp only [Act.put, List.setIfInBounds_toArray, List.set_cons_zero, List.set_cons_succ]
      replace fr := fr.of hb
      clear hb
      refine wpAnyG_takeL (i := 12) (v := ?_) rfl (by kernel_rfl) (by kernel_rfl) (by kernel_rfl) (by kernel_rfl) (fun _ _ _ h => h) ⟨by rfl, fun w' hw' => Or.inl ?hy12⟩ ?_
      case hy12 => (go_simp) <;> with_reducible rfl
      try simp only [Act.put, List.setIfInBounds_toArray, List.set_cons_zero, List.set_cons_succ]
      refine wpAnyG_takeL (i := 13) (v := ?_) rfl (by kernel_rfl) (by kernel_rfl) (by kernel_rfl) (by kernel_rfl) (fun _ _ _ h => h) ⟨by rfl, fun w' hw' => Or.inl ?hy13⟩ ?_
      case hy13 => (go_simp) <;> with_reducible rfl
      try simp only [Act.put, List.setIfInBounds_toArray, List.set_cons_zero, List.set_cons_succ]
      refine wpAnyG_takeL (i := 14) (v := ?_) rfl (by kernel_rfl) (by kernel_rfl) (by kernel_rfl) (by kernel_rfl) (fun _ _ _ h => h) ⟨by rfl, fun w' hw' => Or.inl ?hy14⟩ ?_
      case hy14 => (go_simp) <;> with_reducible rfl
      try simp only [Act.put, List.setIfInBounds_toArray, List.set_cons_zero, List.set_cons_succ]
      refine wpAnyG_done (by kernel_rfl) (fun wm hg => ?_) _
      replace fr := fr.up hg
      clear hg
      go_wp2_with fail

      go_ret
      exact ⟨ret_bool (by simp), fr.b⟩
    · have g2 : (524288 < (y.length : Int)) := by omega
      go_enter Try.func11, Try.ntmps11
      go_wp2_with fail
      go_ret
      exact ⟨rfl, Below.refl _ _⟩
  · have g1 : (524288 < (x.length : Int)) := by omega
    go_enter Try.func11, Try.ntmps11
    go_wp2_with fail
    go_ret
    exact ⟨rfl, Below.refl _ _⟩

end Go.Proofs.Ytadldlijmnohhaa
