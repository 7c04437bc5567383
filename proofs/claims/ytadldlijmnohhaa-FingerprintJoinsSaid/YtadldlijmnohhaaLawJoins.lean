/-
  stockyardlaw22.FingerprintJoins returns true.
-/
import Derived.Test.YtadldlijmnohhaaRest
import Derived.Test.YtadldlijmnohhaaRegR
import Derived.Deep.DeepCutAuto
import Derived.Test.YtadldlijmnohhaaMade
import Derived.Test.YtadldlijmnohhaaKnown22
namespace Go.Proofs.Ytadldlijmnohhaa
set_option linter.unusedVariables false
set_option linter.unusedSimpArgs false
set_option linter.unnecessarySimpa false
open Go.RowKit
attribute [local go_sem ↓] Go.wp_at_zero Go.wp_at_succ

set_option maxHeartbeats 1000000 in
theorem lawJoins_any (a b c d : Int) (a0 : 0 ≤ a) (a1 : a < 18446744073709551616) (b0 : -9223372036854775808 ≤ b) (b1 : b ≤ 9223372036854775807) (c0 : 0 ≤ c) (c1 : c < 18446744073709551616) (d0 : -9223372036854775808 ≤ d) (d1 : d ≤ 9223372036854775807) (w : World) :
    Calls Try.prog 8 #[.agg #[.int .u64 a, .int .i64 b], .agg #[.int .u64 c, .int .i64 d]] w fun e w' => e = .returned (.bool true) ∧ Below w.heap.size w w' := by
  obtain ⟨r, hr⟩ : ∃ r, joinR a b c d = r := ⟨_, rfl⟩
  have HJ := Lib.hid hr
  clear hr
  go_enter Try.func8, Try.ntmps8
  go_wp2_with fail
  refine (join_any _ _ _ _ a0 c0 b0 d0 _).mono ?_
  rintro e w1 ⟨rfl, hb⟩
  rw [HJ.out]
  unfold idErr
  have ha : Bx w1 w.heap.size a b := ((Bx.new w a b).al _).of hb
  have hc : Bx w1 (w.heap.size + 1) c d := (Bx.new' (w := w.alloc _) c d (by simp)).of hb
  have fr : Fr w w1 := (((Fr.refl w).al _).al _).of hb
  clear hb
  have ⟨xa0, xa1, xa2, xa3, xa4⟩ := ha.facts
  have ⟨xc0, xc1, xc2, xc3, xc4⟩ := hc.facts
  go_wp2_with fail
  refine (refJoin_any _ _ _ _ a0 c0 b0 d0 _).mono ?_
  rintro e w2 ⟨rfl, hb⟩
  rw [HJ.out]
  unfold idErr
  have hx : Bx w2 w1.heap.size r.1 r.2.1 := (Bx.new w1 _ _).of hb
  replace ha : Bx w2 w.heap.size a b := (by first | with_reducible exact (ha).of hb | with_reducible exact (ha.al _).of hb | with_reducible exact ((ha.al _).al _).of hb | with_reducible exact (((ha.al _).al _).al _).of hb | with_reducible exact (ha.dr).of hb | with_reducible exact ((ha.al _).dr).of hb | with_reducible exact (((ha.al _).al _).dr).of hb | with_reducible exact (ha.drN _).of hb | with_reducible exact ((ha.al _).drN _).of hb)
  replace hc : Bx w2 (w.heap.size + 1) c d := (by first | with_reducible exact (hc).of hb | with_reducible exact (hc.al _).of hb | with_reducible exact ((hc.al _).al _).of hb | with_reducible exact (((hc.al _).al _).al _).of hb | with_reducible exact (hc.dr).of hb | with_reducible exact ((hc.al _).dr).of hb | with_reducible exact (((hc.al _).al _).dr).of hb | with_reducible exact (hc.drN _).of hb | with_reducible exact ((hc.al _).drN _).of hb)
  replace fr : Fr w w2 := (by first | with_reducible exact (fr).of hb | with_reducible exact (fr.al _).of hb | with_reducible exact ((fr.al _).al _).of hb | with_reducible exact (((fr.al _).al _).al _).of hb | with_reducible exact (fr.dr).of hb | with_reducible exact ((fr.al _).dr).of hb | with_reducible exact (((fr.al _).al _).dr).of hb | with_reducible exact (fr.drN _).of hb | with_reducible exact ((fr.al _).drN _).of hb)
  clear hb xa0 xa1 xa2 xa3 xa4 xc0 xc1 xc2 xc3 xc4
  have ⟨xa0, xa1, xa2, xa3, xa4⟩ := ha.facts
  have ⟨xc0, xc1, xc2, xc3, xc4⟩ := hc.facts
  go_wp2_with fail
  have hy := Bx.new w2 r.1 r.2.1
  replace ha := ha.al (.cells #[.int .u64 r.1, .int .i64 r.2.1] 24)
  replace hc := hc.al (.cells #[.int .u64 r.1, .int .i64 r.2.1] 24)
  replace hx := hx.al (.cells #[.int .u64 r.1, .int .i64 r.2.1] 24)
  replace fr := fr.al (.cells #[.int .u64 r.1, .int .i64 r.2.1] 24)
  clear xa0 xa1 xa2 xa3 xa4 xc0 xc1 xc2 xc3 xc4
  go_cut [9, 10] (fun s9 s10 wx => ∃ g1 g2, s9 = .pointer (some ⟨g1, 0, none⟩) ∧ s10 = .pointer (some ⟨g2, 0, none⟩) ∧ Bx wx g1 (madeS a b 1048576) (foldI b (1048576 + 1)) ∧ Bx wx g2 (madeS c d 1048576) (foldI d (1048576 + 1)) ∧ Bx wx w1.heap.size r.1 r.2.1 ∧ Bx wx w2.heap.size r.1 r.2.1 ∧ Fr w wx)
  case first =>
    clear HJ
    refine wp_region_grew (by kernel_rfl) ?_
    replace ha := ha.dr
    replace hc := hc.dr
    replace hx := hx.dr
    replace hy := hy.dr
    replace fr := fr.dr
    refine wpAnyG_takeL (i := 0) (v := ?_) rfl (by kernel_rfl) (by kernel_rfl) (by kernel_rfl) (by kernel_rfl) (fun _ _ _ h => h) ⟨by rfl, fun w' hw' => Or.inl ?hy0⟩ ?_
    case hy0 => (obtain ⟨_, _, _, _, _⟩ := (ha.up hw').facts; obtain ⟨_, _, _, _, _⟩ := (hc.up hw').facts; go_simp) <;> with_reducible rfl
    try simp only [Act.put, List.setIfInBounds_toArray, List.set_cons_zero, List.set_cons_succ]
    refine wpAnyG_takeL (i := 1) (v := ?_) rfl (by kernel_rfl) (by kernel_rfl) (by kernel_rfl) (by kernel_rfl) (fun _ _ _ h => h) ⟨by rfl, fun w' hw' => Or.inl ?hy1⟩ ?_
    case hy1 => (obtain ⟨_, _, _, _, _⟩ := (ha.up hw').facts; obtain ⟨_, _, _, _, _⟩ := (hc.up hw').facts; go_simp) <;> with_reducible rfl
    try simp only [Act.put, List.setIfInBounds_toArray, List.set_cons_zero, List.set_cons_succ]
    refine wpAnyG_takeL (i := 2) (v := ?_) rfl (by kernel_rfl) (by kernel_rfl) (by kernel_rfl) (by kernel_rfl) (fun _ _ _ h => h) ⟨by rfl, fun w' hw' => Or.inl ?hy2⟩ ?_
    case hy2 => (obtain ⟨_, _, _, _, _⟩ := (ha.up hw').facts; obtain ⟨_, _, _, _, _⟩ := (hc.up hw').facts; go_simp) <;> with_reducible rfl
    try simp only [Act.put, List.setIfInBounds_toArray, List.set_cons_zero, List.set_cons_succ]
    refine wpAnyG_takeL (i := 3) (v := ?_) rfl (by kernel_rfl) (by kernel_rfl) (by kernel_rfl) (by kernel_rfl) (fun _ _ _ h => h) ⟨by rfl, fun w' hw' => Or.inl ?hy3⟩ ?_
    case hy3 => (obtain ⟨_, _, _, _, _⟩ := (ha.up hw').facts; obtain ⟨_, _, _, _, _⟩ := (hc.up hw').facts; go_simp) <;> with_reducible rfl
    try simp only [Act.put, List.setIfInBounds_toArray, List.set_cons_zero, List.set_cons_succ]
    refine wpAnyG_takeL (i := 5) (v := ?_) rfl (by kernel_rfl) (by kernel_rfl) (by kernel_rfl) (by kernel_rfl) (fun _ _ _ h => h) ⟨by rfl, fun w' hw' => Or.inl ?hy5⟩ ?_
    case hy5 => (obtain ⟨_, _, _, _, _⟩ := (ha.up hw').facts; obtain ⟨_, _, _, _, _⟩ := (hc.up hw').facts; go_simp) <;> with_reducible rfl
    try simp only [Act.put, List.setIfInBounds_toArray, List.set_cons_zero, List.set_cons_succ]
    refine wpAnyG_takeL (i := 6) (v := ?_) rfl (by kernel_rfl) (by kernel_rfl) (by kernel_rfl) (by kernel_rfl) (fun _ _ _ h => h) ⟨by rfl, fun w' hw' => Or.inl ?hy6⟩ ?_
    case hy6 => (obtain ⟨_, _, _, _, _⟩ := (ha.up hw').facts; obtain ⟨_, _, _, _, _⟩ := (hc.up hw').facts; go_simp) <;> with_reducible rfl
    try simp only [Act.put, List.setIfInBounds_toArray, List.set_cons_zero, List.set_cons_succ]
    refine wpAnyG_takeL (i := 7) (v := ?_) rfl (by kernel_rfl) (by kernel_rfl) (by kernel_rfl) (by kernel_rfl) (fun _ _ _ h => h) ⟨by rfl, fun w' hw' => Or.inl ?hy7⟩ ?_
    case hy7 => (obtain ⟨_, _, _, _, _⟩ := (ha.up hw').facts; obtain ⟨_, _, _, _, _⟩ := (hc.up hw').facts; go_simp) <;> with_reducible rfl
    try simp only [Act.put, List.setIfInBounds_toArray, List.set_cons_zero, List.set_cons_succ]
    refine wpAnyG_takeL (i := 8) (v := ?_) rfl (by kernel_rfl) (by kernel_rfl) (by kernel_rfl) (by kernel_rfl) (fun _ _ _ h => h) ⟨by rfl, fun w' hw' => Or.inl ?hy8⟩ ?_
    case hy8 => (obtain ⟨_, _, _, _, _⟩ := (ha.up hw').facts; obtain ⟨_, _, _, _, _⟩ := (hc.up hw').facts; go_simp) <;> with_reducible rfl
    try simp only [Act.put, List.setIfInBounds_toArray, List.set_cons_zero, List.set_cons_succ]
    refine wpAnyG_takeL (i := 4) (v := ?_) rfl (by kernel_rfl) (by kernel_rfl) (by kernel_rfl) (by kernel_rfl) (fun _ _ _ h => h) ⟨by rfl, fun w' hw' => Or.inr ⟨?hf4, ?ha4, ?he4, ?hy4⟩⟩ ?_
    case he4 => go_simp <;> first | (refine ⟨?_, ?_⟩ <;> with_reducible rfl) | with_reducible rfl
    case hy4 => exact made_any a b 1048576 a0 a1 b0 b1 (by omega) (by omega) _
    try simp only [Act.put, List.setIfInBounds_toArray, List.set_cons_zero, List.set_cons_succ]
    refine wpAnyG_takeL (i := 9) (v := ?_) rfl (by kernel_rfl) (by kernel_rfl) (by kernel_rfl) (by kernel_rfl) (fun _ _ _ h => h) ⟨by rfl, fun w' hw' => Or.inr ⟨?hf9, ?ha9, ?he9, ?hy9⟩⟩ ?_
    case he9 => go_simp <;> first | (refine ⟨?_, ?_⟩ <;> with_reducible rfl) | with_reducible rfl
    case hy9 => exact made_any c d 1048576 c0 c1 d0 d1 (by omega) (by omega) _
    try simp only [Act.put, List.setIfInBounds_toArray, List.set_cons_zero, List.set_cons_succ]
    clear ha hc
    refine wpAnyG_ready (rs := [10, 11]) (by kernel_rfl) (by simp) (fun wg hg => ?_)
    replace hx := hx.up hg
    replace hy := hy.up hg
    replace fr := fr.up hg
    clear hg
    refine AllReadyG.consL rfl (fun K hK => ?_) ?_
    · go_simp
      refine hK.out _ _ (.inr (grew_alloc _ _)) ?_
      clear hK K
      try simp only [Act.put, List.setIfInBounds_toArray, List.set_cons_zero, List.set_cons_succ]
      have ne_hp_hx := Nat.ne_of_gt hx.lt
      have ne_hp_hy := Nat.ne_of_gt hy.lt
      have gge_hp := fr.b.size
      have hp := Bx.new wg 0 0
      replace hx := hx.al (.cells #[.int .u64 0, .int .i64 0] 24)
      replace hy := hy.al (.cells #[.int .u64 0, .int .i64 0] 24)
      replace fr := fr.al (.cells #[.int .u64 0, .int .i64 0] 24)
      generalize wg.alloc (.cells #[.int .u64 0, .int .i64 0] 24) = wa at *
      generalize wg.heap.size = ga at *
      refine wpAnyG_ready (rs := [11]) (by kernel_rfl) (by simp) (fun wg hg => ?_)
      replace hx := hx.up hg
      replace hy := hy.up hg
      replace fr := fr.up hg
      replace hp := hp.up hg
      clear hg
      refine AllReadyG.consL rfl (fun K hK => ?_) ?_
      · go_simp
        refine hK.out _ _ (.inr (grew_alloc _ _)) ?_
        clear hK K
        try simp only [Act.put, List.setIfInBounds_toArray, List.set_cons_zero, List.set_cons_succ]
        have ne_hq_hx := Nat.ne_of_gt hx.lt
        have ne_hq_hy := Nat.ne_of_gt hy.lt
        have gge_hq := fr.b.size
        have ne_hq_hp := Nat.ne_of_gt hp.lt
        have hq := Bx.new wg 0 0
        replace hx := hx.al (.cells #[.int .u64 0, .int .i64 0] 24)
        replace hy := hy.al (.cells #[.int .u64 0, .int .i64 0] 24)
        replace fr := fr.al (.cells #[.int .u64 0, .int .i64 0] 24)
        replace hp := hp.al (.cells #[.int .u64 0, .int .i64 0] 24)
        generalize wg.alloc (.cells #[.int .u64 0, .int .i64 0] 24) = wa at *
        generalize wg.heap.size = ga at *
        refine wpAnyG_ready (rs := [12]) (by kernel_rfl) (by simp) (fun wg hg => ?_)
        replace hx := hx.up hg
        replace hy := hy.up hg
        replace fr := fr.up hg
        replace hp := hp.up hg
        replace hq := hq.up hg
        clear hg
        refine AllReadyG.consL rfl (fun K hK => ?_) AllReadyG.nil
        obtain ⟨zc0, zc1, zf0, zf1, zlt⟩ := hp
        go_simp
        refine hK.out _ _ (.inl (by kernel_rfl)) ?_
        clear hK K
        try simp only [Act.put, List.setIfInBounds_toArray, List.set_cons_zero, List.set_cons_succ]
        replace hp := (Bx.mk zc0 zc1 zf0 zf1 zlt).stored (madeS a b 1048576) (foldI b (1048576 + 1))
        clear zc0 zc1 zf0 zf1 zlt
        replace hx := hx.far ne_hp_hx (.int .u64 (madeS a b 1048576)) (.int .i64 (foldI b (1048576 + 1)))
        replace hy := hy.far ne_hp_hy (.int .u64 (madeS a b 1048576)) (.int .i64 (foldI b (1048576 + 1)))
        replace fr := fr.stored gge_hp (.int .u64 (madeS a b 1048576)) (.int .i64 (foldI b (1048576 + 1)))
        replace hq := hq.far (by first | exact ne_hp_hq | exact Ne.symm ne_hq_hp) (.int .u64 (madeS a b 1048576)) (.int .i64 (foldI b (1048576 + 1)))
        refine wpAnyG_ready (rs := [13]) (by kernel_rfl) (by simp) (fun wg hg => ?_)
        replace hx := hx.up hg
        replace hy := hy.up hg
        replace fr := fr.up hg
        replace hp := hp.up hg
        replace hq := hq.up hg
        clear hg
        refine AllReadyG.consL rfl (fun K hK => ?_) AllReadyG.nil
        obtain ⟨zc0, zc1, zf0, zf1, zlt⟩ := hq
        go_simp
        refine hK.out _ _ (.inl (by kernel_rfl)) ?_
        clear hK K
        try simp only [Act.put, List.setIfInBounds_toArray, List.set_cons_zero, List.set_cons_succ]
        replace hq := (Bx.mk zc0 zc1 zf0 zf1 zlt).stored (madeS c d 1048576) (foldI d (1048576 + 1))
        clear zc0 zc1 zf0 zf1 zlt
        replace hx := hx.far ne_hq_hx (.int .u64 (madeS c d 1048576)) (.int .i64 (foldI d (1048576 + 1)))
        replace hy := hy.far ne_hq_hy (.int .u64 (madeS c d 1048576)) (.int .i64 (foldI d (1048576 + 1)))
        replace fr := fr.stored gge_hq (.int .u64 (madeS c d 1048576)) (.int .i64 (foldI d (1048576 + 1)))
        replace hp := hp.far (by first | exact ne_hq_hp | exact Ne.symm ne_hp_hq) (.int .u64 (madeS c d 1048576)) (.int .i64 (foldI d (1048576 + 1)))
        refine wpAnyG_done (by kernel_rfl) (fun wg hg => ?_) _
        replace hx := hx.up hg
        replace hy := hy.up hg
        replace fr := fr.up hg
        replace hp := hp.up hg
        replace hq := hq.up hg
        clear hg
        (go_wp2_with fail; go_meet; exact ⟨_, _, rfl, rfl, hp, hq, hx, hy, fr⟩)
      exact AllReadyG.nil
    refine AllReadyG.consL rfl (fun K hK => ?_) ?_
    · go_simp
      refine hK.out _ _ (.inr (grew_alloc _ _)) ?_
      clear hK K
      try simp only [Act.put, List.setIfInBounds_toArray, List.set_cons_zero, List.set_cons_succ]
      have ne_hq_hx := Nat.ne_of_gt hx.lt
      have ne_hq_hy := Nat.ne_of_gt hy.lt
      have gge_hq := fr.b.size
      have hq := Bx.new wg 0 0
      replace hx := hx.al (.cells #[.int .u64 0, .int .i64 0] 24)
      replace hy := hy.al (.cells #[.int .u64 0, .int .i64 0] 24)
      replace fr := fr.al (.cells #[.int .u64 0, .int .i64 0] 24)
      generalize wg.alloc (.cells #[.int .u64 0, .int .i64 0] 24) = wa at *
      generalize wg.heap.size = ga at *
      refine wpAnyG_ready (rs := [10]) (by kernel_rfl) (by simp) (fun wg hg => ?_)
      replace hx := hx.up hg
      replace hy := hy.up hg
      replace fr := fr.up hg
      replace hq := hq.up hg
      clear hg
      refine AllReadyG.consL rfl (fun K hK => ?_) ?_
      · go_simp
        refine hK.out _ _ (.inr (grew_alloc _ _)) ?_
        clear hK K
        try simp only [Act.put, List.setIfInBounds_toArray, List.set_cons_zero, List.set_cons_succ]
        have ne_hp_hx := Nat.ne_of_gt hx.lt
        have ne_hp_hy := Nat.ne_of_gt hy.lt
        have gge_hp := fr.b.size
        have ne_hp_hq := Nat.ne_of_gt hq.lt
        have hp := Bx.new wg 0 0
        replace hx := hx.al (.cells #[.int .u64 0, .int .i64 0] 24)
        replace hy := hy.al (.cells #[.int .u64 0, .int .i64 0] 24)
        replace fr := fr.al (.cells #[.int .u64 0, .int .i64 0] 24)
        replace hq := hq.al (.cells #[.int .u64 0, .int .i64 0] 24)
        generalize wg.alloc (.cells #[.int .u64 0, .int .i64 0] 24) = wa at *
        generalize wg.heap.size = ga at *
        refine wpAnyG_ready (rs := [12]) (by kernel_rfl) (by simp) (fun wg hg => ?_)
        replace hx := hx.up hg
        replace hy := hy.up hg
        replace fr := fr.up hg
        replace hq := hq.up hg
        replace hp := hp.up hg
        clear hg
        refine AllReadyG.consL rfl (fun K hK => ?_) AllReadyG.nil
        obtain ⟨zc0, zc1, zf0, zf1, zlt⟩ := hp
        go_simp
        refine hK.out _ _ (.inl (by kernel_rfl)) ?_
        clear hK K
        try simp only [Act.put, List.setIfInBounds_toArray, List.set_cons_zero, List.set_cons_succ]
        replace hp := (Bx.mk zc0 zc1 zf0 zf1 zlt).stored (madeS a b 1048576) (foldI b (1048576 + 1))
        clear zc0 zc1 zf0 zf1 zlt
        replace hx := hx.far ne_hp_hx (.int .u64 (madeS a b 1048576)) (.int .i64 (foldI b (1048576 + 1)))
        replace hy := hy.far ne_hp_hy (.int .u64 (madeS a b 1048576)) (.int .i64 (foldI b (1048576 + 1)))
        replace fr := fr.stored gge_hp (.int .u64 (madeS a b 1048576)) (.int .i64 (foldI b (1048576 + 1)))
        replace hq := hq.far (by first | exact ne_hp_hq | exact Ne.symm ne_hq_hp) (.int .u64 (madeS a b 1048576)) (.int .i64 (foldI b (1048576 + 1)))
        refine wpAnyG_ready (rs := [13]) (by kernel_rfl) (by simp) (fun wg hg => ?_)
        replace hx := hx.up hg
        replace hy := hy.up hg
        replace fr := fr.up hg
        replace hq := hq.up hg
        replace hp := hp.up hg
        clear hg
        refine AllReadyG.consL rfl (fun K hK => ?_) AllReadyG.nil
        obtain ⟨zc0, zc1, zf0, zf1, zlt⟩ := hq
        go_simp
        refine hK.out _ _ (.inl (by kernel_rfl)) ?_
        clear hK K
        try simp only [Act.put, List.setIfInBounds_toArray, List.set_cons_zero, List.set_cons_succ]
        replace hq := (Bx.mk zc0 zc1 zf0 zf1 zlt).stored (madeS c d 1048576) (foldI d (1048576 + 1))
        clear zc0 zc1 zf0 zf1 zlt
        replace hx := hx.far ne_hq_hx (.int .u64 (madeS c d 1048576)) (.int .i64 (foldI d (1048576 + 1)))
        replace hy := hy.far ne_hq_hy (.int .u64 (madeS c d 1048576)) (.int .i64 (foldI d (1048576 + 1)))
        replace fr := fr.stored gge_hq (.int .u64 (madeS c d 1048576)) (.int .i64 (foldI d (1048576 + 1)))
        replace hp := hp.far (by first | exact ne_hq_hp | exact Ne.symm ne_hp_hq) (.int .u64 (madeS c d 1048576)) (.int .i64 (foldI d (1048576 + 1)))
        refine wpAnyG_done (by kernel_rfl) (fun wg hg => ?_) _
        replace hx := hx.up hg
        replace hy := hy.up hg
        replace fr := fr.up hg
        replace hq := hq.up hg
        replace hp := hp.up hg
        clear hg
        (go_wp2_with fail; go_meet; exact ⟨_, _, rfl, rfl, hp, hq, hx, hy, fr⟩)
      exact AllReadyG.nil
    exact AllReadyG.nil
  case rest =>
    obtain ⟨g1, g2, rfl, rfl, hp, hq, hx, hy, fr⟩ := hcut
    clear ha hc
    have p0 : (0 : Int) ≤ madeS a b 1048576 := (madeS_fp a b 1048576).1
    have q0 : (0 : Int) ≤ madeS c d 1048576 := (madeS_fp c d 1048576).1
    have p1 := foldI_lo b (1048576 + 1)
    have q1 := foldI_lo d (1048576 + 1)
    generalize madeS a b 1048576 = s1 at *
    generalize madeS c d 1048576 = s2 at *
    generalize foldI b (1048576 + 1) = n1 at *
    generalize foldI d (1048576 + 1) = n2 at *
    obtain ⟨k, hk⟩ : ∃ k, joinR s1 n1 s2 n2 = k := ⟨_, rfl⟩
    have HK := Lib.hid hk
    clear hk
    have ⟨xa0, xa1, xa2, xa3, xa4⟩ := hp.facts
    have ⟨xc0, xc1, xc2, xc3, xc4⟩ := hq.facts
    go_wp2_with fail
    refine (join_any s1 n1 s2 n2 p0 q0 (by omega) (by omega) _).mono ?_
    rintro e w3 ⟨rfl, hb⟩
    rw [HK.out]
    unfold idErr
    replace hp := hp.of hb
    replace hq := hq.of hb
    replace hx := hx.of hb
    replace hy := hy.of hb
    replace fr := fr.of hb
    clear hb xa0 xa1 xa2 xa3 xa4 xc0 xc1 xc2 xc3 xc4
    have ⟨xa0, xa1, xa2, xa3, xa4⟩ := hp.facts
    have ⟨xc0, xc1, xc2, xc3, xc4⟩ := hq.facts
    go_wp2_with fail
    refine (refJoin_any s1 n1 s2 n2 p0 q0 (by omega) (by omega) _).mono ?_
    rintro e w4 ⟨rfl, hb⟩
    rw [HK.out]
    unfold idErr
    have hz : Bx w4 w3.heap.size k.1 k.2.1 := (Bx.new w3 _ _).of hb
    replace hx : Bx w4 w1.heap.size r.1 r.2.1 := (by first | with_reducible exact (hx).of hb | with_reducible exact (hx.al _).of hb | with_reducible exact ((hx.al _).al _).of hb | with_reducible exact (((hx.al _).al _).al _).of hb | with_reducible exact (hx.dr).of hb | with_reducible exact ((hx.al _).dr).of hb | with_reducible exact (((hx.al _).al _).dr).of hb | with_reducible exact (hx.drN _).of hb | with_reducible exact ((hx.al _).drN _).of hb)
    replace hy : Bx w4 w2.heap.size r.1 r.2.1 := (by first | with_reducible exact (hy).of hb | with_reducible exact (hy.al _).of hb | with_reducible exact ((hy.al _).al _).of hb | with_reducible exact (((hy.al _).al _).al _).of hb | with_reducible exact (hy.dr).of hb | with_reducible exact ((hy.al _).dr).of hb | with_reducible exact (((hy.al _).al _).dr).of hb | with_reducible exact (hy.drN _).of hb | with_reducible exact ((hy.al _).drN _).of hb)
    replace fr : Fr w w4 := (by first | with_reducible exact (fr).of hb | with_reducible exact (fr.al _).of hb | with_reducible exact ((fr.al _).al _).of hb | with_reducible exact (((fr.al _).al _).al _).of hb | with_reducible exact (fr.dr).of hb | with_reducible exact ((fr.al _).dr).of hb | with_reducible exact (((fr.al _).al _).dr).of hb | with_reducible exact (fr.drN _).of hb | with_reducible exact ((fr.al _).drN _).of hb)
    clear hb xa0 xa1 xa2 xa3 xa4 xc0 xc1 xc2 xc3 xc4 hp hq p0 p1 q0 q1
    go_wp2_with fail
    have hv := Bx.new w4 k.1 k.2.1
    replace hx := hx.al (.cells #[.int .u64 k.1, .int .i64 k.2.1] 24)
    replace hy := hy.al (.cells #[.int .u64 k.1, .int .i64 k.2.1] 24)
    replace hz := hz.al (.cells #[.int .u64 k.1, .int .i64 k.2.1] 24)
    replace fr := fr.al (.cells #[.int .u64 k.1, .int .i64 k.2.1] 24)
    refine (known22_any _).mono ?_
    rintro e w5 ⟨rfl, hb⟩
    have ⟨ya0, ya1, ya2, _, _⟩ := (hx.of hb).facts
    have ⟨yb0, yb1, yb2, _, _⟩ := (hy.of hb).facts
    have ⟨yc0, yc1, yc2, _, _⟩ := (hz.of hb).facts
    have ⟨yd0, yd1, yd2, _, _⟩ := (hv.of hb).facts
    have fr5 := fr.of hb
    clear hb hx hy hz hv fr
    go_wp2_with fail
    go_ret
    exact ⟨ret_bool (by simp), fr5.b⟩

end Go.Proofs.Ytadldlijmnohhaa
