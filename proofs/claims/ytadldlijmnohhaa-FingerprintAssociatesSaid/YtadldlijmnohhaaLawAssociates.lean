/-
  stockyardlaw22.FingerprintAssociates returns true.
-/
import Derived.Test.YtadldlijmnohhaaJoinLaws
import Derived.Test.YtadldlijmnohhaaJoin
import Derived.Test.YtadldlijmnohhaaRegR
import Derived.Test.YtadldlijmnohhaaMade
import Derived.Test.YtadldlijmnohhaaKnown22
import Derived.Deep.DeepCutAuto
namespace Go.Proofs.Ytadldlijmnohhaa
set_option linter.unusedVariables false
set_option linter.unusedSimpArgs false
set_option linter.unnecessarySimpa false
open Go.RowKit
attribute [local go_sem ↓] Go.wp_at_zero Go.wp_at_succ

set_option maxHeartbeats 2000000 in
set_option maxRecDepth 8000 in
theorem lawAssociates_any (a b c d e f : Int) (a0 : 0 ≤ a) (a1 : a < 18446744073709551616) (b0 : -9223372036854775808 ≤ b) (b1 : b ≤ 9223372036854775807) (c0 : 0 ≤ c) (c1 : c < 18446744073709551616) (d0 : -9223372036854775808 ≤ d) (d1 : d ≤ 9223372036854775807)
    (e0 : 0 ≤ e) (e1 : e < 18446744073709551616) (f0 : -9223372036854775808 ≤ f) (f1 : f ≤ 9223372036854775807) (w : World) :
    Calls Try.prog 10 #[.agg #[.int .u64 a, .int .i64 b], .agg #[.int .u64 c, .int .i64 d], .agg #[.int .u64 e, .int .i64 f]] w fun e w' => e = .returned (.bool true) ∧ Below w.heap.size w w' := by
  go_enter Try.func10, Try.ntmps10
  go_wp2_with fail
  have ha := ((Bx.new w a b).al (.cells #[.int .u64 c, .int .i64 d] 24)).al (.cells #[.int .u64 e, .int .i64 f] 24)
  have hc := (Bx.new' (w := w.alloc (.cells #[.int .u64 a, .int .i64 b] 24)) (g := w.heap.size + 1) c d (by simp)).al (.cells #[.int .u64 e, .int .i64 f] 24)
  have he := Bx.new' (w := (w.alloc (.cells #[.int .u64 a, .int .i64 b] 24)).alloc (.cells #[.int .u64 c, .int .i64 d] 24)) (g := w.heap.size + 1 + 1) e f (by simp)
  have fr := (((Fr.refl w).al (.cells #[.int .u64 a, .int .i64 b] 24)).al (.cells #[.int .u64 c, .int .i64 d] 24)).al (.cells #[.int .u64 e, .int .i64 f] 24)
  go_outline
  go_cut [7, 8, 9] (fun s7 s8 s9 wx => ∃ g1 g2 g3, s7 = .pointer (some ⟨g1, 0, none⟩) ∧ s8 = .pointer (some ⟨g2, 0, none⟩) ∧ s9 = .pointer (some ⟨g3, 0, none⟩) ∧ Bx wx g1 (madeS a b 262144) (foldI b (262144 + 1)) ∧ Bx wx g2 (madeS c d 262144) (foldI d (262144 + 1)) ∧ Bx wx g3 (madeS e f 262144) (foldI f (262144 + 1)) ∧ Fr w wx)
  case first =>
    refine wp_region_grew (by kernel_rfl) ?_
    replace ha := ha.dr
    replace hc := hc.dr
    replace he := he.dr
    replace fr := fr.dr
    refine wpAnyG_takeL (i := 0) (v := ?_) rfl (by kernel_rfl) (by kernel_rfl) (by kernel_rfl) (by kernel_rfl) (fun _ _ _ h => h) ⟨by rfl, fun w' hw' => Or.inl ?hy0⟩ ?_
    case hy0 => (obtain ⟨_, _, _, _, _⟩ := (ha.up hw').facts; obtain ⟨_, _, _, _, _⟩ := (hc.up hw').facts; obtain ⟨_, _, _, _, _⟩ := (he.up hw').facts; go_simp) <;> with_reducible rfl
    try simp only [Act.put, List.setIfInBounds_toArray, List.set_cons_zero, List.set_cons_succ]
    refine wpAnyG_takeL (i := 1) (v := ?_) rfl (by kernel_rfl) (by kernel_rfl) (by kernel_rfl) (by kernel_rfl) (fun _ _ _ h => h) ⟨by rfl, fun w' hw' => Or.inl ?hy1⟩ ?_
    case hy1 => (obtain ⟨_, _, _, _, _⟩ := (ha.up hw').facts; obtain ⟨_, _, _, _, _⟩ := (hc.up hw').facts; obtain ⟨_, _, _, _, _⟩ := (he.up hw').facts; go_simp) <;> with_reducible rfl
    try simp only [Act.put, List.setIfInBounds_toArray, List.set_cons_zero, List.set_cons_succ]
    refine wpAnyG_takeL (i := 2) (v := ?_) rfl (by kernel_rfl) (by kernel_rfl) (by kernel_rfl) (by kernel_rfl) (fun _ _ _ h => h) ⟨by rfl, fun w' hw' => Or.inl ?hy2⟩ ?_
    case hy2 => (obtain ⟨_, _, _, _, _⟩ := (ha.up hw').facts; obtain ⟨_, _, _, _, _⟩ := (hc.up hw').facts; obtain ⟨_, _, _, _, _⟩ := (he.up hw').facts; go_simp) <;> with_reducible rfl
    try simp only [Act.put, List.setIfInBounds_toArray, List.set_cons_zero, List.set_cons_succ]
    refine wpAnyG_takeL (i := 3) (v := ?_) rfl (by kernel_rfl) (by kernel_rfl) (by kernel_rfl) (by kernel_rfl) (fun _ _ _ h => h) ⟨by rfl, fun w' hw' => Or.inl ?hy3⟩ ?_
    case hy3 => (obtain ⟨_, _, _, _, _⟩ := (ha.up hw').facts; obtain ⟨_, _, _, _, _⟩ := (hc.up hw').facts; obtain ⟨_, _, _, _, _⟩ := (he.up hw').facts; go_simp) <;> with_reducible rfl
    try simp only [Act.put, List.setIfInBounds_toArray, List.set_cons_zero, List.set_cons_succ]
    refine wpAnyG_takeL (i := 5) (v := ?_) rfl (by kernel_rfl) (by kernel_rfl) (by kernel_rfl) (by kernel_rfl) (fun _ _ _ h => h) ⟨by rfl, fun w' hw' => Or.inl ?hy5⟩ ?_
    case hy5 => (obtain ⟨_, _, _, _, _⟩ := (ha.up hw').facts; obtain ⟨_, _, _, _, _⟩ := (hc.up hw').facts; obtain ⟨_, _, _, _, _⟩ := (he.up hw').facts; go_simp) <;> with_reducible rfl
    try simp only [Act.put, List.setIfInBounds_toArray, List.set_cons_zero, List.set_cons_succ]
    refine wpAnyG_takeL (i := 6) (v := ?_) rfl (by kernel_rfl) (by kernel_rfl) (by kernel_rfl) (by kernel_rfl) (fun _ _ _ h => h) ⟨by rfl, fun w' hw' => Or.inl ?hy6⟩ ?_
    case hy6 => (obtain ⟨_, _, _, _, _⟩ := (ha.up hw').facts; obtain ⟨_, _, _, _, _⟩ := (hc.up hw').facts; obtain ⟨_, _, _, _, _⟩ := (he.up hw').facts; go_simp) <;> with_reducible rfl
    try simp only [Act.put, List.setIfInBounds_toArray, List.set_cons_zero, List.set_cons_succ]
    refine wpAnyG_takeL (i := 7) (v := ?_) rfl (by kernel_rfl) (by kernel_rfl) (by kernel_rfl) (by kernel_rfl) (fun _ _ _ h => h) ⟨by rfl, fun w' hw' => Or.inl ?hy7⟩ ?_
    case hy7 => (obtain ⟨_, _, _, _, _⟩ := (ha.up hw').facts; obtain ⟨_, _, _, _, _⟩ := (hc.up hw').facts; obtain ⟨_, _, _, _, _⟩ := (he.up hw').facts; go_simp) <;> with_reducible rfl
    try simp only [Act.put, List.setIfInBounds_toArray, List.set_cons_zero, List.set_cons_succ]
    refine wpAnyG_takeL (i := 8) (v := ?_) rfl (by kernel_rfl) (by kernel_rfl) (by kernel_rfl) (by kernel_rfl) (fun _ _ _ h => h) ⟨by rfl, fun w' hw' => Or.inl ?hy8⟩ ?_
    case hy8 => (obtain ⟨_, _, _, _, _⟩ := (ha.up hw').facts; obtain ⟨_, _, _, _, _⟩ := (hc.up hw').facts; obtain ⟨_, _, _, _, _⟩ := (he.up hw').facts; go_simp) <;> with_reducible rfl
    try simp only [Act.put, List.setIfInBounds_toArray, List.set_cons_zero, List.set_cons_succ]
    refine wpAnyG_takeL (i := 10) (v := ?_) rfl (by kernel_rfl) (by kernel_rfl) (by kernel_rfl) (by kernel_rfl) (fun _ _ _ h => h) ⟨by rfl, fun w' hw' => Or.inl ?hy10⟩ ?_
    case hy10 => (obtain ⟨_, _, _, _, _⟩ := (ha.up hw').facts; obtain ⟨_, _, _, _, _⟩ := (hc.up hw').facts; obtain ⟨_, _, _, _, _⟩ := (he.up hw').facts; go_simp) <;> with_reducible rfl
    try simp only [Act.put, List.setIfInBounds_toArray, List.set_cons_zero, List.set_cons_succ]
    refine wpAnyG_takeL (i := 11) (v := ?_) rfl (by kernel_rfl) (by kernel_rfl) (by kernel_rfl) (by kernel_rfl) (fun _ _ _ h => h) ⟨by rfl, fun w' hw' => Or.inl ?hy11⟩ ?_
    case hy11 => (obtain ⟨_, _, _, _, _⟩ := (ha.up hw').facts; obtain ⟨_, _, _, _, _⟩ := (hc.up hw').facts; obtain ⟨_, _, _, _, _⟩ := (he.up hw').facts; go_simp) <;> with_reducible rfl
    try simp only [Act.put, List.setIfInBounds_toArray, List.set_cons_zero, List.set_cons_succ]
    refine wpAnyG_takeL (i := 12) (v := ?_) rfl (by kernel_rfl) (by kernel_rfl) (by kernel_rfl) (by kernel_rfl) (fun _ _ _ h => h) ⟨by rfl, fun w' hw' => Or.inl ?hy12⟩ ?_
    case hy12 => (obtain ⟨_, _, _, _, _⟩ := (ha.up hw').facts; obtain ⟨_, _, _, _, _⟩ := (hc.up hw').facts; obtain ⟨_, _, _, _, _⟩ := (he.up hw').facts; go_simp) <;> with_reducible rfl
    try simp only [Act.put, List.setIfInBounds_toArray, List.set_cons_zero, List.set_cons_succ]
    refine wpAnyG_takeL (i := 13) (v := ?_) rfl (by kernel_rfl) (by kernel_rfl) (by kernel_rfl) (by kernel_rfl) (fun _ _ _ h => h) ⟨by rfl, fun w' hw' => Or.inl ?hy13⟩ ?_
    case hy13 => (obtain ⟨_, _, _, _, _⟩ := (ha.up hw').facts; obtain ⟨_, _, _, _, _⟩ := (hc.up hw').facts; obtain ⟨_, _, _, _, _⟩ := (he.up hw').facts; go_simp) <;> with_reducible rfl
    try simp only [Act.put, List.setIfInBounds_toArray, List.set_cons_zero, List.set_cons_succ]
    refine wpAnyG_takeL (i := 4) (v := ?_) rfl (by kernel_rfl) (by kernel_rfl) (by kernel_rfl) (by kernel_rfl) (fun _ _ _ h => h) ⟨by rfl, fun w' hw' => Or.inr ⟨?hf4, ?ha4, ?he4, ?hy4⟩⟩ ?_
    case he4 => go_simp <;> first | (refine ⟨?_, ?_⟩ <;> with_reducible rfl) | with_reducible rfl
    case hy4 => exact made_any a b 262144 a0 a1 b0 b1 (by omega) (by omega) _
    try simp only [Act.put, List.setIfInBounds_toArray, List.set_cons_zero, List.set_cons_succ]
    refine wpAnyG_takeL (i := 9) (v := ?_) rfl (by kernel_rfl) (by kernel_rfl) (by kernel_rfl) (by kernel_rfl) (fun _ _ _ h => h) ⟨by rfl, fun w' hw' => Or.inr ⟨?hf9, ?ha9, ?he9, ?hy9⟩⟩ ?_
    case he9 => go_simp <;> first | (refine ⟨?_, ?_⟩ <;> with_reducible rfl) | with_reducible rfl
    case hy9 => exact made_any c d 262144 c0 c1 d0 d1 (by omega) (by omega) _
    try simp only [Act.put, List.setIfInBounds_toArray, List.set_cons_zero, List.set_cons_succ]
    refine wpAnyG_takeL (i := 14) (v := ?_) rfl (by kernel_rfl) (by kernel_rfl) (by kernel_rfl) (by kernel_rfl) (fun _ _ _ h => h) ⟨by rfl, fun w' hw' => Or.inr ⟨?hf14, ?ha14, ?he14, ?hy14⟩⟩ ?_
    case he14 => go_simp <;> first | (refine ⟨?_, ?_⟩ <;> with_reducible rfl) | with_reducible rfl
    case hy14 => exact made_any e f 262144 e0 e1 f0 f1 (by omega) (by omega) _
    try simp only [Act.put, List.setIfInBounds_toArray, List.set_cons_zero, List.set_cons_succ]
    clear ha hc he
    refine wpAnyG_ready (rs := [15, 16, 17]) (by kernel_rfl) (by simp) (fun wg hg => ?_)
    replace fr := fr.up hg
    clear hg
    refine AllReadyG.consL rfl (fun K hK => ?_) ?_
    · go_simp
      refine hK.out _ _ (.inr (grew_alloc _ _)) ?_
      clear hK K
      try simp only [Act.put, List.setIfInBounds_toArray, List.set_cons_zero, List.set_cons_succ]
      have gge_hp := fr.b.size
      have hp := Bx.new wg 0 0
      replace fr := fr.al (.cells #[.int .u64 0, .int .i64 0] 24)
      generalize wg.alloc (.cells #[.int .u64 0, .int .i64 0] 24) = wa at *
      generalize wg.heap.size = ga at *
      refine wpAnyG_ready (rs := [16, 17]) (by kernel_rfl) (by simp) (fun wg hg => ?_)
      replace fr := fr.up hg
      replace hp := hp.up hg
      clear hg
      refine AllReadyG.consL rfl (fun K hK => ?_) ?_
      · go_simp
        refine hK.out _ _ (.inr (grew_alloc _ _)) ?_
        clear hK K
        try simp only [Act.put, List.setIfInBounds_toArray, List.set_cons_zero, List.set_cons_succ]
        have gge_hq := fr.b.size
        have ne_hq_hp := Nat.ne_of_gt hp.lt
        have hq := Bx.new wg 0 0
        replace fr := fr.al (.cells #[.int .u64 0, .int .i64 0] 24)
        replace hp := hp.al (.cells #[.int .u64 0, .int .i64 0] 24)
        generalize wg.alloc (.cells #[.int .u64 0, .int .i64 0] 24) = wa at *
        generalize wg.heap.size = ga at *
        refine wpAnyG_ready (rs := [17]) (by kernel_rfl) (by simp) (fun wg hg => ?_)
        replace fr := fr.up hg
        replace hp := hp.up hg
        replace hq := hq.up hg
        clear hg
        refine AllReadyG.consL rfl (fun K hK => ?_) ?_
        · go_simp
          refine hK.out _ _ (.inr (grew_alloc _ _)) ?_
          clear hK K
          try simp only [Act.put, List.setIfInBounds_toArray, List.set_cons_zero, List.set_cons_succ]
          have gge_hr := fr.b.size
          have ne_hr_hp := Nat.ne_of_gt hp.lt
          have ne_hr_hq := Nat.ne_of_gt hq.lt
          have hr := Bx.new wg 0 0
          replace fr := fr.al (.cells #[.int .u64 0, .int .i64 0] 24)
          replace hp := hp.al (.cells #[.int .u64 0, .int .i64 0] 24)
          replace hq := hq.al (.cells #[.int .u64 0, .int .i64 0] 24)
          generalize wg.alloc (.cells #[.int .u64 0, .int .i64 0] 24) = wa at *
          generalize wg.heap.size = ga at *
          refine wpAnyG_ready (rs := [18]) (by kernel_rfl) (by simp) (fun wg hg => ?_)
          replace fr := fr.up hg
          replace hp := hp.up hg
          replace hq := hq.up hg
          replace hr := hr.up hg
          clear hg
          refine AllReadyG.consL rfl (fun K hK => ?_) AllReadyG.nil
          obtain ⟨zc0, zc1, zf0, zf1, zlt⟩ := hp
          go_simp
          refine hK.out _ _ (.inl (by kernel_rfl)) ?_
          clear hK K
          try simp only [Act.put, List.setIfInBounds_toArray, List.set_cons_zero, List.set_cons_succ]
          replace hp := (Bx.mk zc0 zc1 zf0 zf1 zlt).stored (madeS a b 262144) (foldI b (262144 + 1))
          clear zc0 zc1 zf0 zf1 zlt
          replace fr := fr.stored gge_hp (.int .u64 (madeS a b 262144)) (.int .i64 (foldI b (262144 + 1)))
          replace hq := hq.far (by first | exact ne_hp_hq | exact Ne.symm ne_hq_hp) (.int .u64 (madeS a b 262144)) (.int .i64 (foldI b (262144 + 1)))
          replace hr := hr.far (by first | exact ne_hp_hr | exact Ne.symm ne_hr_hp) (.int .u64 (madeS a b 262144)) (.int .i64 (foldI b (262144 + 1)))
          refine wpAnyG_ready (rs := [19]) (by kernel_rfl) (by simp) (fun wg hg => ?_)
          replace fr := fr.up hg
          replace hp := hp.up hg
          replace hq := hq.up hg
          replace hr := hr.up hg
          clear hg
          refine AllReadyG.consL rfl (fun K hK => ?_) AllReadyG.nil
          obtain ⟨zc0, zc1, zf0, zf1, zlt⟩ := hq
          go_simp
          refine hK.out _ _ (.inl (by kernel_rfl)) ?_
          clear hK K
          try simp only [Act.put, List.setIfInBounds_toArray, List.set_cons_zero, List.set_cons_succ]
          replace hq := (Bx.mk zc0 zc1 zf0 zf1 zlt).stored (madeS c d 262144) (foldI d (262144 + 1))
          clear zc0 zc1 zf0 zf1 zlt
          replace fr := fr.stored gge_hq (.int .u64 (madeS c d 262144)) (.int .i64 (foldI d (262144 + 1)))
          replace hp := hp.far (by first | exact ne_hq_hp | exact Ne.symm ne_hp_hq) (.int .u64 (madeS c d 262144)) (.int .i64 (foldI d (262144 + 1)))
          replace hr := hr.far (by first | exact ne_hq_hr | exact Ne.symm ne_hr_hq) (.int .u64 (madeS c d 262144)) (.int .i64 (foldI d (262144 + 1)))
          refine wpAnyG_ready (rs := [20]) (by kernel_rfl) (by simp) (fun wg hg => ?_)
          replace fr := fr.up hg
          replace hp := hp.up hg
          replace hq := hq.up hg
          replace hr := hr.up hg
          clear hg
          refine AllReadyG.consL rfl (fun K hK => ?_) AllReadyG.nil
          obtain ⟨zc0, zc1, zf0, zf1, zlt⟩ := hr
          go_simp
          refine hK.out _ _ (.inl (by kernel_rfl)) ?_
          clear hK K
          try simp only [Act.put, List.setIfInBounds_toArray, List.set_cons_zero, List.set_cons_succ]
          replace hr := (Bx.mk zc0 zc1 zf0 zf1 zlt).stored (madeS e f 262144) (foldI f (262144 + 1))
          clear zc0 zc1 zf0 zf1 zlt
          replace fr := fr.stored gge_hr (.int .u64 (madeS e f 262144)) (.int .i64 (foldI f (262144 + 1)))
          replace hp := hp.far (by first | exact ne_hr_hp | exact Ne.symm ne_hp_hr) (.int .u64 (madeS e f 262144)) (.int .i64 (foldI f (262144 + 1)))
          replace hq := hq.far (by first | exact ne_hr_hq | exact Ne.symm ne_hq_hr) (.int .u64 (madeS e f 262144)) (.int .i64 (foldI f (262144 + 1)))
          refine wpAnyG_done (by kernel_rfl) (fun wg hg => ?_) _
          replace fr := fr.up hg
          replace hp := hp.up hg
          replace hq := hq.up hg
          replace hr := hr.up hg
          clear hg
          (go_wp2_with fail; go_meet; exact ⟨_, _, _, rfl, rfl, rfl, hp, hq, hr, fr⟩)
        exact AllReadyG.nil
      refine AllReadyG.consL rfl (fun K hK => ?_) ?_
      · go_simp
        refine hK.out _ _ (.inr (grew_alloc _ _)) ?_
        clear hK K
        try simp only [Act.put, List.setIfInBounds_toArray, List.set_cons_zero, List.set_cons_succ]
        have gge_hr := fr.b.size
        have ne_hr_hp := Nat.ne_of_gt hp.lt
        have hr := Bx.new wg 0 0
        replace fr := fr.al (.cells #[.int .u64 0, .int .i64 0] 24)
        replace hp := hp.al (.cells #[.int .u64 0, .int .i64 0] 24)
        generalize wg.alloc (.cells #[.int .u64 0, .int .i64 0] 24) = wa at *
        generalize wg.heap.size = ga at *
        refine wpAnyG_ready (rs := [16]) (by kernel_rfl) (by simp) (fun wg hg => ?_)
        replace fr := fr.up hg
        replace hp := hp.up hg
        replace hr := hr.up hg
        clear hg
        refine AllReadyG.consL rfl (fun K hK => ?_) ?_
        · go_simp
          refine hK.out _ _ (.inr (grew_alloc _ _)) ?_
          clear hK K
          try simp only [Act.put, List.setIfInBounds_toArray, List.set_cons_zero, List.set_cons_succ]
          have gge_hq := fr.b.size
          have ne_hq_hp := Nat.ne_of_gt hp.lt
          have ne_hq_hr := Nat.ne_of_gt hr.lt
          have hq := Bx.new wg 0 0
          replace fr := fr.al (.cells #[.int .u64 0, .int .i64 0] 24)
          replace hp := hp.al (.cells #[.int .u64 0, .int .i64 0] 24)
          replace hr := hr.al (.cells #[.int .u64 0, .int .i64 0] 24)
          generalize wg.alloc (.cells #[.int .u64 0, .int .i64 0] 24) = wa at *
          generalize wg.heap.size = ga at *
          refine wpAnyG_ready (rs := [18]) (by kernel_rfl) (by simp) (fun wg hg => ?_)
          replace fr := fr.up hg
          replace hp := hp.up hg
          replace hr := hr.up hg
          replace hq := hq.up hg
          clear hg
          refine AllReadyG.consL rfl (fun K hK => ?_) AllReadyG.nil
          obtain ⟨zc0, zc1, zf0, zf1, zlt⟩ := hp
          go_simp
          refine hK.out _ _ (.inl (by kernel_rfl)) ?_
          clear hK K
          try simp only [Act.put, List.setIfInBounds_toArray, List.set_cons_zero, List.set_cons_succ]
          replace hp := (Bx.mk zc0 zc1 zf0 zf1 zlt).stored (madeS a b 262144) (foldI b (262144 + 1))
          clear zc0 zc1 zf0 zf1 zlt
          replace fr := fr.stored gge_hp (.int .u64 (madeS a b 262144)) (.int .i64 (foldI b (262144 + 1)))
          replace hr := hr.far (by first | exact ne_hp_hr | exact Ne.symm ne_hr_hp) (.int .u64 (madeS a b 262144)) (.int .i64 (foldI b (262144 + 1)))
          replace hq := hq.far (by first | exact ne_hp_hq | exact Ne.symm ne_hq_hp) (.int .u64 (madeS a b 262144)) (.int .i64 (foldI b (262144 + 1)))
          refine wpAnyG_ready (rs := [19]) (by kernel_rfl) (by simp) (fun wg hg => ?_)
          replace fr := fr.up hg
          replace hp := hp.up hg
          replace hr := hr.up hg
          replace hq := hq.up hg
          clear hg
          refine AllReadyG.consL rfl (fun K hK => ?_) AllReadyG.nil
          obtain ⟨zc0, zc1, zf0, zf1, zlt⟩ := hq
          go_simp
          refine hK.out _ _ (.inl (by kernel_rfl)) ?_
          clear hK K
          try simp only [Act.put, List.setIfInBounds_toArray, List.set_cons_zero, List.set_cons_succ]
          replace hq := (Bx.mk zc0 zc1 zf0 zf1 zlt).stored (madeS c d 262144) (foldI d (262144 + 1))
          clear zc0 zc1 zf0 zf1 zlt
          replace fr := fr.stored gge_hq (.int .u64 (madeS c d 262144)) (.int .i64 (foldI d (262144 + 1)))
          replace hp := hp.far (by first | exact ne_hq_hp | exact Ne.symm ne_hp_hq) (.int .u64 (madeS c d 262144)) (.int .i64 (foldI d (262144 + 1)))
          replace hr := hr.far (by first | exact ne_hq_hr | exact Ne.symm ne_hr_hq) (.int .u64 (madeS c d 262144)) (.int .i64 (foldI d (262144 + 1)))
          refine wpAnyG_ready (rs := [20]) (by kernel_rfl) (by simp) (fun wg hg => ?_)
          replace fr := fr.up hg
          replace hp := hp.up hg
          replace hr := hr.up hg
          replace hq := hq.up hg
          clear hg
          refine AllReadyG.consL rfl (fun K hK => ?_) AllReadyG.nil
          obtain ⟨zc0, zc1, zf0, zf1, zlt⟩ := hr
          go_simp
          refine hK.out _ _ (.inl (by kernel_rfl)) ?_
          clear hK K
          try simp only [Act.put, List.setIfInBounds_toArray, List.set_cons_zero, List.set_cons_succ]
          replace hr := (Bx.mk zc0 zc1 zf0 zf1 zlt).stored (madeS e f 262144) (foldI f (262144 + 1))
          clear zc0 zc1 zf0 zf1 zlt
          replace fr := fr.stored gge_hr (.int .u64 (madeS e f 262144)) (.int .i64 (foldI f (262144 + 1)))
          replace hp := hp.far (by first | exact ne_hr_hp | exact Ne.symm ne_hp_hr) (.int .u64 (madeS e f 262144)) (.int .i64 (foldI f (262144 + 1)))
          replace hq := hq.far (by first | exact ne_hr_hq | exact Ne.symm ne_hq_hr) (.int .u64 (madeS e f 262144)) (.int .i64 (foldI f (262144 + 1)))
          refine wpAnyG_done (by kernel_rfl) (fun wg hg => ?_) _
          replace fr := fr.up hg
          replace hp := hp.up hg
          replace hr := hr.up hg
          replace hq := hq.up hg
          clear hg
          (go_wp2_with fail; go_meet; exact ⟨_, _, _, rfl, rfl, rfl, hp, hq, hr, fr⟩)
        exact AllReadyG.nil
      exact AllReadyG.nil
    refine AllReadyG.consL rfl (fun K hK => ?_) ?_
    · go_simp
      refine hK.out _ _ (.inr (grew_alloc _ _)) ?_
      clear hK K
      try simp only [Act.put, List.setIfInBounds_toArray, List.set_cons_zero, List.set_cons_succ]
      have gge_hq := fr.b.size
      have hq := Bx.new wg 0 0
      replace fr := fr.al (.cells #[.int .u64 0, .int .i64 0] 24)
      generalize wg.alloc (.cells #[.int .u64 0, .int .i64 0] 24) = wa at *
      generalize wg.heap.size = ga at *
      refine wpAnyG_ready (rs := [15, 17]) (by kernel_rfl) (by simp) (fun wg hg => ?_)
      replace fr := fr.up hg
      replace hq := hq.up hg
      clear hg
      refine AllReadyG.consL rfl (fun K hK => ?_) ?_
      · go_simp
        refine hK.out _ _ (.inr (grew_alloc _ _)) ?_
        clear hK K
        try simp only [Act.put, List.setIfInBounds_toArray, List.set_cons_zero, List.set_cons_succ]
        have gge_hp := fr.b.size
        have ne_hp_hq := Nat.ne_of_gt hq.lt
        have hp := Bx.new wg 0 0
        replace fr := fr.al (.cells #[.int .u64 0, .int .i64 0] 24)
        replace hq := hq.al (.cells #[.int .u64 0, .int .i64 0] 24)
        generalize wg.alloc (.cells #[.int .u64 0, .int .i64 0] 24) = wa at *
        generalize wg.heap.size = ga at *
        refine wpAnyG_ready (rs := [17]) (by kernel_rfl) (by simp) (fun wg hg => ?_)
        replace fr := fr.up hg
        replace hq := hq.up hg
        replace hp := hp.up hg
        clear hg
        refine AllReadyG.consL rfl (fun K hK => ?_) ?_
        · go_simp
          refine hK.out _ _ (.inr (grew_alloc _ _)) ?_
          clear hK K
          try simp only [Act.put, List.setIfInBounds_toArray, List.set_cons_zero, List.set_cons_succ]
          have gge_hr := fr.b.size
          have ne_hr_hq := Nat.ne_of_gt hq.lt
          have ne_hr_hp := Nat.ne_of_gt hp.lt
          have hr := Bx.new wg 0 0
          replace fr := fr.al (.cells #[.int .u64 0, .int .i64 0] 24)
          replace hq := hq.al (.cells #[.int .u64 0, .int .i64 0] 24)
          replace hp := hp.al (.cells #[.int .u64 0, .int .i64 0] 24)
          generalize wg.alloc (.cells #[.int .u64 0, .int .i64 0] 24) = wa at *
          generalize wg.heap.size = ga at *
          refine wpAnyG_ready (rs := [18]) (by kernel_rfl) (by simp) (fun wg hg => ?_)
          replace fr := fr.up hg
          replace hq := hq.up hg
          replace hp := hp.up hg
          replace hr := hr.up hg
          clear hg
          refine AllReadyG.consL rfl (fun K hK => ?_) AllReadyG.nil
          obtain ⟨zc0, zc1, zf0, zf1, zlt⟩ := hp
          go_simp
          refine hK.out _ _ (.inl (by kernel_rfl)) ?_
          clear hK K
          try simp only [Act.put, List.setIfInBounds_toArray, List.set_cons_zero, List.set_cons_succ]
          replace hp := (Bx.mk zc0 zc1 zf0 zf1 zlt).stored (madeS a b 262144) (foldI b (262144 + 1))
          clear zc0 zc1 zf0 zf1 zlt
          replace fr := fr.stored gge_hp (.int .u64 (madeS a b 262144)) (.int .i64 (foldI b (262144 + 1)))
          replace hq := hq.far (by first | exact ne_hp_hq | exact Ne.symm ne_hq_hp) (.int .u64 (madeS a b 262144)) (.int .i64 (foldI b (262144 + 1)))
          replace hr := hr.far (by first | exact ne_hp_hr | exact Ne.symm ne_hr_hp) (.int .u64 (madeS a b 262144)) (.int .i64 (foldI b (262144 + 1)))
          refine wpAnyG_ready (rs := [19]) (by kernel_rfl) (by simp) (fun wg hg => ?_)
          replace fr := fr.up hg
          replace hq := hq.up hg
          replace hp := hp.up hg
          replace hr := hr.up hg
          clear hg
          refine AllReadyG.consL rfl (fun K hK => ?_) AllReadyG.nil
          obtain ⟨zc0, zc1, zf0, zf1, zlt⟩ := hq
          go_simp
          refine hK.out _ _ (.inl (by kernel_rfl)) ?_
          clear hK K
          try simp only [Act.put, List.setIfInBounds_toArray, List.set_cons_zero, List.set_cons_succ]
          replace hq := (Bx.mk zc0 zc1 zf0 zf1 zlt).stored (madeS c d 262144) (foldI d (262144 + 1))
          clear zc0 zc1 zf0 zf1 zlt
          replace fr := fr.stored gge_hq (.int .u64 (madeS c d 262144)) (.int .i64 (foldI d (262144 + 1)))
          replace hp := hp.far (by first | exact ne_hq_hp | exact Ne.symm ne_hp_hq) (.int .u64 (madeS c d 262144)) (.int .i64 (foldI d (262144 + 1)))
          replace hr := hr.far (by first | exact ne_hq_hr | exact Ne.symm ne_hr_hq) (.int .u64 (madeS c d 262144)) (.int .i64 (foldI d (262144 + 1)))
          refine wpAnyG_ready (rs := [20]) (by kernel_rfl) (by simp) (fun wg hg => ?_)
          replace fr := fr.up hg
          replace hq := hq.up hg
          replace hp := hp.up hg
          replace hr := hr.up hg
          clear hg
          refine AllReadyG.consL rfl (fun K hK => ?_) AllReadyG.nil
          obtain ⟨zc0, zc1, zf0, zf1, zlt⟩ := hr
          go_simp
          refine hK.out _ _ (.inl (by kernel_rfl)) ?_
          clear hK K
          try simp only [Act.put, List.setIfInBounds_toArray, List.set_cons_zero, List.set_cons_succ]
          replace hr := (Bx.mk zc0 zc1 zf0 zf1 zlt).stored (madeS e f 262144) (foldI f (262144 + 1))
          clear zc0 zc1 zf0 zf1 zlt
          replace fr := fr.stored gge_hr (.int .u64 (madeS e f 262144)) (.int .i64 (foldI f (262144 + 1)))
          replace hq := hq.far (by first | exact ne_hr_hq | exact Ne.symm ne_hq_hr) (.int .u64 (madeS e f 262144)) (.int .i64 (foldI f (262144 + 1)))
          replace hp := hp.far (by first | exact ne_hr_hp | exact Ne.symm ne_hp_hr) (.int .u64 (madeS e f 262144)) (.int .i64 (foldI f (262144 + 1)))
          refine wpAnyG_done (by kernel_rfl) (fun wg hg => ?_) _
          replace fr := fr.up hg
          replace hq := hq.up hg
          replace hp := hp.up hg
          replace hr := hr.up hg
          clear hg
          (go_wp2_with fail; go_meet; exact ⟨_, _, _, rfl, rfl, rfl, hp, hq, hr, fr⟩)
        exact AllReadyG.nil
      refine AllReadyG.consL rfl (fun K hK => ?_) ?_
      · go_simp
        refine hK.out _ _ (.inr (grew_alloc _ _)) ?_
        clear hK K
        try simp only [Act.put, List.setIfInBounds_toArray, List.set_cons_zero, List.set_cons_succ]
        have gge_hr := fr.b.size
        have ne_hr_hq := Nat.ne_of_gt hq.lt
        have hr := Bx.new wg 0 0
        replace fr := fr.al (.cells #[.int .u64 0, .int .i64 0] 24)
        replace hq := hq.al (.cells #[.int .u64 0, .int .i64 0] 24)
        generalize wg.alloc (.cells #[.int .u64 0, .int .i64 0] 24) = wa at *
        generalize wg.heap.size = ga at *
        refine wpAnyG_ready (rs := [15]) (by kernel_rfl) (by simp) (fun wg hg => ?_)
        replace fr := fr.up hg
        replace hq := hq.up hg
        replace hr := hr.up hg
        clear hg
        refine AllReadyG.consL rfl (fun K hK => ?_) ?_
        · go_simp
          refine hK.out _ _ (.inr (grew_alloc _ _)) ?_
          clear hK K
          try simp only [Act.put, List.setIfInBounds_toArray, List.set_cons_zero, List.set_cons_succ]
          have gge_hp := fr.b.size
          have ne_hp_hq := Nat.ne_of_gt hq.lt
          have ne_hp_hr := Nat.ne_of_gt hr.lt
          have hp := Bx.new wg 0 0
          replace fr := fr.al (.cells #[.int .u64 0, .int .i64 0] 24)
          replace hq := hq.al (.cells #[.int .u64 0, .int .i64 0] 24)
          replace hr := hr.al (.cells #[.int .u64 0, .int .i64 0] 24)
          generalize wg.alloc (.cells #[.int .u64 0, .int .i64 0] 24) = wa at *
          generalize wg.heap.size = ga at *
          refine wpAnyG_ready (rs := [18]) (by kernel_rfl) (by simp) (fun wg hg => ?_)
          replace fr := fr.up hg
          replace hq := hq.up hg
          replace hr := hr.up hg
          replace hp := hp.up hg
          clear hg
          refine AllReadyG.consL rfl (fun K hK => ?_) AllReadyG.nil
          obtain ⟨zc0, zc1, zf0, zf1, zlt⟩ := hp
          go_simp
          refine hK.out _ _ (.inl (by kernel_rfl)) ?_
          clear hK K
          try simp only [Act.put, List.setIfInBounds_toArray, List.set_cons_zero, List.set_cons_succ]
          replace hp := (Bx.mk zc0 zc1 zf0 zf1 zlt).stored (madeS a b 262144) (foldI b (262144 + 1))
          clear zc0 zc1 zf0 zf1 zlt
          replace fr := fr.stored gge_hp (.int .u64 (madeS a b 262144)) (.int .i64 (foldI b (262144 + 1)))
          replace hq := hq.far (by first | exact ne_hp_hq | exact Ne.symm ne_hq_hp) (.int .u64 (madeS a b 262144)) (.int .i64 (foldI b (262144 + 1)))
          replace hr := hr.far (by first | exact ne_hp_hr | exact Ne.symm ne_hr_hp) (.int .u64 (madeS a b 262144)) (.int .i64 (foldI b (262144 + 1)))
          refine wpAnyG_ready (rs := [19]) (by kernel_rfl) (by simp) (fun wg hg => ?_)
          replace fr := fr.up hg
          replace hq := hq.up hg
          replace hr := hr.up hg
          replace hp := hp.up hg
          clear hg
          refine AllReadyG.consL rfl (fun K hK => ?_) AllReadyG.nil
          obtain ⟨zc0, zc1, zf0, zf1, zlt⟩ := hq
          go_simp
          refine hK.out _ _ (.inl (by kernel_rfl)) ?_
          clear hK K
          try simp only [Act.put, List.setIfInBounds_toArray, List.set_cons_zero, List.set_cons_succ]
          replace hq := (Bx.mk zc0 zc1 zf0 zf1 zlt).stored (madeS c d 262144) (foldI d (262144 + 1))
          clear zc0 zc1 zf0 zf1 zlt
          replace fr := fr.stored gge_hq (.int .u64 (madeS c d 262144)) (.int .i64 (foldI d (262144 + 1)))
          replace hr := hr.far (by first | exact ne_hq_hr | exact Ne.symm ne_hr_hq) (.int .u64 (madeS c d 262144)) (.int .i64 (foldI d (262144 + 1)))
          replace hp := hp.far (by first | exact ne_hq_hp | exact Ne.symm ne_hp_hq) (.int .u64 (madeS c d 262144)) (.int .i64 (foldI d (262144 + 1)))
          refine wpAnyG_ready (rs := [20]) (by kernel_rfl) (by simp) (fun wg hg => ?_)
          replace fr := fr.up hg
          replace hq := hq.up hg
          replace hr := hr.up hg
          replace hp := hp.up hg
          clear hg
          refine AllReadyG.consL rfl (fun K hK => ?_) AllReadyG.nil
          obtain ⟨zc0, zc1, zf0, zf1, zlt⟩ := hr
          go_simp
          refine hK.out _ _ (.inl (by kernel_rfl)) ?_
          clear hK K
          try simp only [Act.put, List.setIfInBounds_toArray, List.set_cons_zero, List.set_cons_succ]
          replace hr := (Bx.mk zc0 zc1 zf0 zf1 zlt).stored (madeS e f 262144) (foldI f (262144 + 1))
          clear zc0 zc1 zf0 zf1 zlt
          replace fr := fr.stored gge_hr (.int .u64 (madeS e f 262144)) (.int .i64 (foldI f (262144 + 1)))
          replace hq := hq.far (by first | exact ne_hr_hq | exact Ne.symm ne_hq_hr) (.int .u64 (madeS e f 262144)) (.int .i64 (foldI f (262144 + 1)))
          replace hp := hp.far (by first | exact ne_hr_hp | exact Ne.symm ne_hp_hr) (.int .u64 (madeS e f 262144)) (.int .i64 (foldI f (262144 + 1)))
          refine wpAnyG_done (by kernel_rfl) (fun wg hg => ?_) _
          replace fr := fr.up hg
          replace hq := hq.up hg
          replace hr := hr.up hg
          replace hp := hp.up hg
          clear hg
          (go_wp2_with fail; go_meet; exact ⟨_, _, _, rfl, rfl, rfl, hp, hq, hr, fr⟩)
        exact AllReadyG.nil
      exact AllReadyG.nil
    refine AllReadyG.consL rfl (fun K hK => ?_) ?_
    · go_simp
      refine hK.out _ _ (.inr (grew_alloc _ _)) ?_
      clear hK K
      try simp only [Act.put, List.setIfInBounds_toArray, List.set_cons_zero, List.set_cons_succ]
      have gge_hr := fr.b.size
      have hr := Bx.new wg 0 0
      replace fr := fr.al (.cells #[.int .u64 0, .int .i64 0] 24)
      generalize wg.alloc (.cells #[.int .u64 0, .int .i64 0] 24) = wa at *
      generalize wg.heap.size = ga at *
      refine wpAnyG_ready (rs := [15, 16]) (by kernel_rfl) (by simp) (fun wg hg => ?_)
      replace fr := fr.up hg
      replace hr := hr.up hg
      clear hg
      refine AllReadyG.consL rfl (fun K hK => ?_) ?_
      · go_simp
        refine hK.out _ _ (.inr (grew_alloc _ _)) ?_
        clear hK K
        try simp only [Act.put, List.setIfInBounds_toArray, List.set_cons_zero, List.set_cons_succ]
        have gge_hp := fr.b.size
        have ne_hp_hr := Nat.ne_of_gt hr.lt
        have hp := Bx.new wg 0 0
        replace fr := fr.al (.cells #[.int .u64 0, .int .i64 0] 24)
        replace hr := hr.al (.cells #[.int .u64 0, .int .i64 0] 24)
        generalize wg.alloc (.cells #[.int .u64 0, .int .i64 0] 24) = wa at *
        generalize wg.heap.size = ga at *
        refine wpAnyG_ready (rs := [16]) (by kernel_rfl) (by simp) (fun wg hg => ?_)
        replace fr := fr.up hg
        replace hr := hr.up hg
        replace hp := hp.up hg
        clear hg
        refine AllReadyG.consL rfl (fun K hK => ?_) ?_
        · go_simp
          refine hK.out _ _ (.inr (grew_alloc _ _)) ?_
          clear hK K
          try simp only [Act.put, List.setIfInBounds_toArray, List.set_cons_zero, List.set_cons_succ]
          have gge_hq := fr.b.size
          have ne_hq_hr := Nat.ne_of_gt hr.lt
          have ne_hq_hp := Nat.ne_of_gt hp.lt
          have hq := Bx.new wg 0 0
          replace fr := fr.al (.cells #[.int .u64 0, .int .i64 0] 24)
          replace hr := hr.al (.cells #[.int .u64 0, .int .i64 0] 24)
          replace hp := hp.al (.cells #[.int .u64 0, .int .i64 0] 24)
          generalize wg.alloc (.cells #[.int .u64 0, .int .i64 0] 24) = wa at *
          generalize wg.heap.size = ga at *
          refine wpAnyG_ready (rs := [18]) (by kernel_rfl) (by simp) (fun wg hg => ?_)
          replace fr := fr.up hg
          replace hr := hr.up hg
          replace hp := hp.up hg
          replace hq := hq.up hg
          clear hg
          refine AllReadyG.consL rfl (fun K hK => ?_) AllReadyG.nil
          obtain ⟨zc0, zc1, zf0, zf1, zlt⟩ := hp
          go_simp
          refine hK.out _ _ (.inl (by kernel_rfl)) ?_
          clear hK K
          try simp only [Act.put, List.setIfInBounds_toArray, List.set_cons_zero, List.set_cons_succ]
          replace hp := (Bx.mk zc0 zc1 zf0 zf1 zlt).stored (madeS a b 262144) (foldI b (262144 + 1))
          clear zc0 zc1 zf0 zf1 zlt
          replace fr := fr.stored gge_hp (.int .u64 (madeS a b 262144)) (.int .i64 (foldI b (262144 + 1)))
          replace hr := hr.far (by first | exact ne_hp_hr | exact Ne.symm ne_hr_hp) (.int .u64 (madeS a b 262144)) (.int .i64 (foldI b (262144 + 1)))
          replace hq := hq.far (by first | exact ne_hp_hq | exact Ne.symm ne_hq_hp) (.int .u64 (madeS a b 262144)) (.int .i64 (foldI b (262144 + 1)))
          refine wpAnyG_ready (rs := [19]) (by kernel_rfl) (by simp) (fun wg hg => ?_)
          replace fr := fr.up hg
          replace hr := hr.up hg
          replace hp := hp.up hg
          replace hq := hq.up hg
          clear hg
          refine AllReadyG.consL rfl (fun K hK => ?_) AllReadyG.nil
          obtain ⟨zc0, zc1, zf0, zf1, zlt⟩ := hq
          go_simp
          refine hK.out _ _ (.inl (by kernel_rfl)) ?_
          clear hK K
          try simp only [Act.put, List.setIfInBounds_toArray, List.set_cons_zero, List.set_cons_succ]
          replace hq := (Bx.mk zc0 zc1 zf0 zf1 zlt).stored (madeS c d 262144) (foldI d (262144 + 1))
          clear zc0 zc1 zf0 zf1 zlt
          replace fr := fr.stored gge_hq (.int .u64 (madeS c d 262144)) (.int .i64 (foldI d (262144 + 1)))
          replace hr := hr.far (by first | exact ne_hq_hr | exact Ne.symm ne_hr_hq) (.int .u64 (madeS c d 262144)) (.int .i64 (foldI d (262144 + 1)))
          replace hp := hp.far (by first | exact ne_hq_hp | exact Ne.symm ne_hp_hq) (.int .u64 (madeS c d 262144)) (.int .i64 (foldI d (262144 + 1)))
          refine wpAnyG_ready (rs := [20]) (by kernel_rfl) (by simp) (fun wg hg => ?_)
          replace fr := fr.up hg
          replace hr := hr.up hg
          replace hp := hp.up hg
          replace hq := hq.up hg
          clear hg
          refine AllReadyG.consL rfl (fun K hK => ?_) AllReadyG.nil
          obtain ⟨zc0, zc1, zf0, zf1, zlt⟩ := hr
          go_simp
          refine hK.out _ _ (.inl (by kernel_rfl)) ?_
          clear hK K
          try simp only [Act.put, List.setIfInBounds_toArray, List.set_cons_zero, List.set_cons_succ]
          replace hr := (Bx.mk zc0 zc1 zf0 zf1 zlt).stored (madeS e f 262144) (foldI f (262144 + 1))
          clear zc0 zc1 zf0 zf1 zlt
          replace fr := fr.stored gge_hr (.int .u64 (madeS e f 262144)) (.int .i64 (foldI f (262144 + 1)))
          replace hp := hp.far (by first | exact ne_hr_hp | exact Ne.symm ne_hp_hr) (.int .u64 (madeS e f 262144)) (.int .i64 (foldI f (262144 + 1)))
          replace hq := hq.far (by first | exact ne_hr_hq | exact Ne.symm ne_hq_hr) (.int .u64 (madeS e f 262144)) (.int .i64 (foldI f (262144 + 1)))
          refine wpAnyG_done (by kernel_rfl) (fun wg hg => ?_) _
          replace fr := fr.up hg
          replace hr := hr.up hg
          replace hp := hp.up hg
          replace hq := hq.up hg
          clear hg
          (go_wp2_with fail; go_meet; exact ⟨_, _, _, rfl, rfl, rfl, hp, hq, hr, fr⟩)
        exact AllReadyG.nil
      refine AllReadyG.consL rfl (fun K hK => ?_) ?_
      · go_simp
        refine hK.out _ _ (.inr (grew_alloc _ _)) ?_
        clear hK K
        try simp only [Act.put, List.setIfInBounds_toArray, List.set_cons_zero, List.set_cons_succ]
        have gge_hq := fr.b.size
        have ne_hq_hr := Nat.ne_of_gt hr.lt
        have hq := Bx.new wg 0 0
        replace fr := fr.al (.cells #[.int .u64 0, .int .i64 0] 24)
        replace hr := hr.al (.cells #[.int .u64 0, .int .i64 0] 24)
        generalize wg.alloc (.cells #[.int .u64 0, .int .i64 0] 24) = wa at *
        generalize wg.heap.size = ga at *
        refine wpAnyG_ready (rs := [15]) (by kernel_rfl) (by simp) (fun wg hg => ?_)
        replace fr := fr.up hg
        replace hr := hr.up hg
        replace hq := hq.up hg
        clear hg
        refine AllReadyG.consL rfl (fun K hK => ?_) ?_
        · go_simp
          refine hK.out _ _ (.inr (grew_alloc _ _)) ?_
          clear hK K
          try simp only [Act.put, List.setIfInBounds_toArray, List.set_cons_zero, List.set_cons_succ]
          have gge_hp := fr.b.size
          have ne_hp_hr := Nat.ne_of_gt hr.lt
          have ne_hp_hq := Nat.ne_of_gt hq.lt
          have hp := Bx.new wg 0 0
          replace fr := fr.al (.cells #[.int .u64 0, .int .i64 0] 24)
          replace hr := hr.al (.cells #[.int .u64 0, .int .i64 0] 24)
          replace hq := hq.al (.cells #[.int .u64 0, .int .i64 0] 24)
          generalize wg.alloc (.cells #[.int .u64 0, .int .i64 0] 24) = wa at *
          generalize wg.heap.size = ga at *
          refine wpAnyG_ready (rs := [18]) (by kernel_rfl) (by simp) (fun wg hg => ?_)
          replace fr := fr.up hg
          replace hr := hr.up hg
          replace hq := hq.up hg
          replace hp := hp.up hg
          clear hg
          refine AllReadyG.consL rfl (fun K hK => ?_) AllReadyG.nil
          obtain ⟨zc0, zc1, zf0, zf1, zlt⟩ := hp
          go_simp
          refine hK.out _ _ (.inl (by kernel_rfl)) ?_
          clear hK K
          try simp only [Act.put, List.setIfInBounds_toArray, List.set_cons_zero, List.set_cons_succ]
          replace hp := (Bx.mk zc0 zc1 zf0 zf1 zlt).stored (madeS a b 262144) (foldI b (262144 + 1))
          clear zc0 zc1 zf0 zf1 zlt
          replace fr := fr.stored gge_hp (.int .u64 (madeS a b 262144)) (.int .i64 (foldI b (262144 + 1)))
          replace hr := hr.far (by first | exact ne_hp_hr | exact Ne.symm ne_hr_hp) (.int .u64 (madeS a b 262144)) (.int .i64 (foldI b (262144 + 1)))
          replace hq := hq.far (by first | exact ne_hp_hq | exact Ne.symm ne_hq_hp) (.int .u64 (madeS a b 262144)) (.int .i64 (foldI b (262144 + 1)))
          refine wpAnyG_ready (rs := [19]) (by kernel_rfl) (by simp) (fun wg hg => ?_)
          replace fr := fr.up hg
          replace hr := hr.up hg
          replace hq := hq.up hg
          replace hp := hp.up hg
          clear hg
          refine AllReadyG.consL rfl (fun K hK => ?_) AllReadyG.nil
          obtain ⟨zc0, zc1, zf0, zf1, zlt⟩ := hq
          go_simp
          refine hK.out _ _ (.inl (by kernel_rfl)) ?_
          clear hK K
          try simp only [Act.put, List.setIfInBounds_toArray, List.set_cons_zero, List.set_cons_succ]
          replace hq := (Bx.mk zc0 zc1 zf0 zf1 zlt).stored (madeS c d 262144) (foldI d (262144 + 1))
          clear zc0 zc1 zf0 zf1 zlt
          replace fr := fr.stored gge_hq (.int .u64 (madeS c d 262144)) (.int .i64 (foldI d (262144 + 1)))
          replace hr := hr.far (by first | exact ne_hq_hr | exact Ne.symm ne_hr_hq) (.int .u64 (madeS c d 262144)) (.int .i64 (foldI d (262144 + 1)))
          replace hp := hp.far (by first | exact ne_hq_hp | exact Ne.symm ne_hp_hq) (.int .u64 (madeS c d 262144)) (.int .i64 (foldI d (262144 + 1)))
          refine wpAnyG_ready (rs := [20]) (by kernel_rfl) (by simp) (fun wg hg => ?_)
          replace fr := fr.up hg
          replace hr := hr.up hg
          replace hq := hq.up hg
          replace hp := hp.up hg
          clear hg
          refine AllReadyG.consL rfl (fun K hK => ?_) AllReadyG.nil
          obtain ⟨zc0, zc1, zf0, zf1, zlt⟩ := hr
          go_simp
          refine hK.out _ _ (.inl (by kernel_rfl)) ?_
          clear hK K
          try simp only [Act.put, List.setIfInBounds_toArray, List.set_cons_zero, List.set_cons_succ]
          replace hr := (Bx.mk zc0 zc1 zf0 zf1 zlt).stored (madeS e f 262144) (foldI f (262144 + 1))
          clear zc0 zc1 zf0 zf1 zlt
          replace fr := fr.stored gge_hr (.int .u64 (madeS e f 262144)) (.int .i64 (foldI f (262144 + 1)))
          replace hq := hq.far (by first | exact ne_hr_hq | exact Ne.symm ne_hq_hr) (.int .u64 (madeS e f 262144)) (.int .i64 (foldI f (262144 + 1)))
          replace hp := hp.far (by first | exact ne_hr_hp | exact Ne.symm ne_hp_hr) (.int .u64 (madeS e f 262144)) (.int .i64 (foldI f (262144 + 1)))
          refine wpAnyG_done (by kernel_rfl) (fun wg hg => ?_) _
          replace fr := fr.up hg
          replace hr := hr.up hg
          replace hq := hq.up hg
          replace hp := hp.up hg
          clear hg
          (go_wp2_with fail; go_meet; exact ⟨_, _, _, rfl, rfl, rfl, hp, hq, hr, fr⟩)
        exact AllReadyG.nil
      exact AllReadyG.nil
    exact AllReadyG.nil
  case rest =>
    obtain ⟨g1, g2, g3, rfl, rfl, rfl, hp, hq, hr, fr⟩ := hcut
    clear ha hc he
    have p1 := made_vld a b 262144 (by omega) (by omega)
    have p2 := made_vld c d 262144 (by omega) (by omega)
    have p3 := made_vld e f 262144 (by omega) (by omega)
    have q1 := foldI_hi b (262144 + 1) (by omega)
    have q2 := foldI_hi d (262144 + 1) (by omega)
    have q3 := foldI_hi f (262144 + 1) (by omega)
    have m1 := foldI_lo b (262144 + 1)
    have m2 := foldI_lo d (262144 + 1)
    have m3 := foldI_lo f (262144 + 1)
    have z1 : (0 : Int) ≤ madeS a b 262144 := (madeS_fp a b 262144).1
    have z2 : (0 : Int) ≤ madeS c d 262144 := (madeS_fp c d 262144).1
    have z3 : (0 : Int) ≤ madeS e f 262144 := (madeS_fp e f 262144).1
    generalize madeS a b 262144 = s1 at *
    generalize madeS c d 262144 = s2 at *
    generalize madeS e f 262144 = s3 at *
    generalize foldI b (262144 + 1) = n1 at *
    generalize foldI d (262144 + 1) = n2 at *
    generalize foldI f (262144 + 1) = n3 at *
    obtain ⟨xy, yz, l, zxy, zyz, mxy, myz, J1, J2, J3, J4, J5, J6⟩ := join_six p1 p2 p3 (by omega) (by omega) (by omega) z1 z2
    have H1 := Lib.hid J1
    have H2 := Lib.hid J2
    have H3 := Lib.hid J3
    have H4 := Lib.hid J4
    have H5 := Lib.hid J5
    have H6 := Lib.hid J6
    clear J1 J2 J3 J4 J5 J6 p1 p2 p3 q1 q2 q3
    have ⟨_, _, _, _, _⟩ := hp.facts
    have ⟨_, _, _, _, _⟩ := hq.facts
    have ⟨_, _, _, _, _⟩ := hr.facts
    go_wp2_with fail
    refine (join_any s1 n1 s2 n2 z1 z2 (by omega) (by omega) _).mono ?_
    rintro e w1 ⟨rfl, hb⟩
    rw [H1.out]
    unfold idErr
    replace hp : Bx w1 (g1) (s1) (n1) := (by first | with_reducible exact (hp).of hb | with_reducible exact (hp.al _).of hb | with_reducible exact ((hp.al _).al _).of hb | with_reducible exact (((hp.al _).al _).al _).of hb | with_reducible exact (hp.dr).of hb | with_reducible exact ((hp.al _).dr).of hb | with_reducible exact (((hp.al _).al _).dr).of hb | with_reducible exact (hp.drN _).of hb | with_reducible exact ((hp.al _).drN _).of hb)
    replace hq : Bx w1 (g2) (s2) (n2) := (by first | with_reducible exact (hq).of hb | with_reducible exact (hq.al _).of hb | with_reducible exact ((hq.al _).al _).of hb | with_reducible exact (((hq.al _).al _).al _).of hb | with_reducible exact (hq.dr).of hb | with_reducible exact ((hq.al _).dr).of hb | with_reducible exact (((hq.al _).al _).dr).of hb | with_reducible exact (hq.drN _).of hb | with_reducible exact ((hq.al _).drN _).of hb)
    replace hr : Bx w1 (g3) (s3) (n3) := (by first | with_reducible exact (hr).of hb | with_reducible exact (hr.al _).of hb | with_reducible exact ((hr.al _).al _).of hb | with_reducible exact (((hr.al _).al _).al _).of hb | with_reducible exact (hr.dr).of hb | with_reducible exact ((hr.al _).dr).of hb | with_reducible exact (((hr.al _).al _).dr).of hb | with_reducible exact (hr.drN _).of hb | with_reducible exact ((hr.al _).drN _).of hb)
    replace fr : Fr w w1 := (by first | with_reducible exact (fr).of hb | with_reducible exact (fr.al _).of hb | with_reducible exact ((fr.al _).al _).of hb | with_reducible exact (((fr.al _).al _).al _).of hb | with_reducible exact (fr.dr).of hb | with_reducible exact ((fr.al _).dr).of hb | with_reducible exact (((fr.al _).al _).dr).of hb | with_reducible exact (fr.drN _).of hb | with_reducible exact ((fr.al _).drN _).of hb)
    clear hb
    have ⟨_, _, _, _, _⟩ := hp.facts
    have ⟨_, _, _, _, _⟩ := hq.facts
    have ⟨_, _, _, _, _⟩ := hr.facts
    go_wp2_with fail
    refine (join_any xy (n1 + n2) s3 n3 zxy z3 (by omega) (by omega) _).mono ?_
    rintro e w2 ⟨rfl, hb⟩
    rw [H2.out]
    unfold idErr
    replace hp : Bx w2 (g1) (s1) (n1) := (by first | with_reducible exact (hp).of hb | with_reducible exact (hp.al _).of hb | with_reducible exact ((hp.al _).al _).of hb | with_reducible exact (((hp.al _).al _).al _).of hb | with_reducible exact (hp.dr).of hb | with_reducible exact ((hp.al _).dr).of hb | with_reducible exact (((hp.al _).al _).dr).of hb | with_reducible exact (hp.drN _).of hb | with_reducible exact ((hp.al _).drN _).of hb)
    replace hq : Bx w2 (g2) (s2) (n2) := (by first | with_reducible exact (hq).of hb | with_reducible exact (hq.al _).of hb | with_reducible exact ((hq.al _).al _).of hb | with_reducible exact (((hq.al _).al _).al _).of hb | with_reducible exact (hq.dr).of hb | with_reducible exact ((hq.al _).dr).of hb | with_reducible exact (((hq.al _).al _).dr).of hb | with_reducible exact (hq.drN _).of hb | with_reducible exact ((hq.al _).drN _).of hb)
    replace hr : Bx w2 (g3) (s3) (n3) := (by first | with_reducible exact (hr).of hb | with_reducible exact (hr.al _).of hb | with_reducible exact ((hr.al _).al _).of hb | with_reducible exact (((hr.al _).al _).al _).of hb | with_reducible exact (hr.dr).of hb | with_reducible exact ((hr.al _).dr).of hb | with_reducible exact (((hr.al _).al _).dr).of hb | with_reducible exact (hr.drN _).of hb | with_reducible exact ((hr.al _).drN _).of hb)
    have hxy : Bx w2 (w1.heap.size) (xy) (n1 + n2) := by first | with_reducible exact (Bx.new w1 _ _).of hb | with_reducible exact ((Bx.new w1 _ _).al _).of hb
    replace fr : Fr w w2 := (by first | with_reducible exact (fr).of hb | with_reducible exact (fr.al _).of hb | with_reducible exact ((fr.al _).al _).of hb | with_reducible exact (((fr.al _).al _).al _).of hb | with_reducible exact (fr.dr).of hb | with_reducible exact ((fr.al _).dr).of hb | with_reducible exact (((fr.al _).al _).dr).of hb | with_reducible exact (fr.drN _).of hb | with_reducible exact ((fr.al _).drN _).of hb)
    clear hb
    have ⟨_, _, _, _, _⟩ := hp.facts
    have ⟨_, _, _, _, _⟩ := hq.facts
    have ⟨_, _, _, _, _⟩ := hr.facts
    have ⟨_, _, _, _, _⟩ := hxy.facts
    go_wp2_with fail
    refine (join_any s2 n2 s3 n3 z2 z3 (by omega) (by omega) _).mono ?_
    rintro e w3 ⟨rfl, hb⟩
    rw [H3.out]
    unfold idErr
    replace hp : Bx w3 (g1) (s1) (n1) := (by first | with_reducible exact (hp).of hb | with_reducible exact (hp.al _).of hb | with_reducible exact ((hp.al _).al _).of hb | with_reducible exact (((hp.al _).al _).al _).of hb | with_reducible exact (hp.dr).of hb | with_reducible exact ((hp.al _).dr).of hb | with_reducible exact (((hp.al _).al _).dr).of hb | with_reducible exact (hp.drN _).of hb | with_reducible exact ((hp.al _).drN _).of hb)
    replace hq : Bx w3 (g2) (s2) (n2) := (by first | with_reducible exact (hq).of hb | with_reducible exact (hq.al _).of hb | with_reducible exact ((hq.al _).al _).of hb | with_reducible exact (((hq.al _).al _).al _).of hb | with_reducible exact (hq.dr).of hb | with_reducible exact ((hq.al _).dr).of hb | with_reducible exact (((hq.al _).al _).dr).of hb | with_reducible exact (hq.drN _).of hb | with_reducible exact ((hq.al _).drN _).of hb)
    replace hr : Bx w3 (g3) (s3) (n3) := (by first | with_reducible exact (hr).of hb | with_reducible exact (hr.al _).of hb | with_reducible exact ((hr.al _).al _).of hb | with_reducible exact (((hr.al _).al _).al _).of hb | with_reducible exact (hr.dr).of hb | with_reducible exact ((hr.al _).dr).of hb | with_reducible exact (((hr.al _).al _).dr).of hb | with_reducible exact (hr.drN _).of hb | with_reducible exact ((hr.al _).drN _).of hb)
    replace hxy : Bx w3 (w1.heap.size) (xy) (n1 + n2) := (by first | with_reducible exact (hxy).of hb | with_reducible exact (hxy.al _).of hb | with_reducible exact ((hxy.al _).al _).of hb | with_reducible exact (((hxy.al _).al _).al _).of hb | with_reducible exact (hxy.dr).of hb | with_reducible exact ((hxy.al _).dr).of hb | with_reducible exact (((hxy.al _).al _).dr).of hb | with_reducible exact (hxy.drN _).of hb | with_reducible exact ((hxy.al _).drN _).of hb)
    have hl : Bx w3 (w2.heap.size) (l) (n1 + n2 + n3) := by first | with_reducible exact (Bx.new w2 _ _).of hb | with_reducible exact ((Bx.new w2 _ _).al _).of hb
    replace fr : Fr w w3 := (by first | with_reducible exact (fr).of hb | with_reducible exact (fr.al _).of hb | with_reducible exact ((fr.al _).al _).of hb | with_reducible exact (((fr.al _).al _).al _).of hb | with_reducible exact (fr.dr).of hb | with_reducible exact ((fr.al _).dr).of hb | with_reducible exact (((fr.al _).al _).dr).of hb | with_reducible exact (fr.drN _).of hb | with_reducible exact ((fr.al _).drN _).of hb)
    clear hb
    have ⟨_, _, _, _, _⟩ := hp.facts
    have ⟨_, _, _, _, _⟩ := hq.facts
    have ⟨_, _, _, _, _⟩ := hr.facts
    have ⟨_, _, _, _, _⟩ := hxy.facts
    have ⟨_, _, _, _, _⟩ := hl.facts
    go_wp2_with fail
    refine (join_any s1 n1 yz (n2 + n3) z1 zyz (by omega) (by omega) _).mono ?_
    rintro e w4 ⟨rfl, hb⟩
    rw [H4.out]
    unfold idErr
    replace hp : Bx w4 (g1) (s1) (n1) := (by first | with_reducible exact (hp).of hb | with_reducible exact (hp.al _).of hb | with_reducible exact ((hp.al _).al _).of hb | with_reducible exact (((hp.al _).al _).al _).of hb | with_reducible exact (hp.dr).of hb | with_reducible exact ((hp.al _).dr).of hb | with_reducible exact (((hp.al _).al _).dr).of hb | with_reducible exact (hp.drN _).of hb | with_reducible exact ((hp.al _).drN _).of hb)
    replace hq : Bx w4 (g2) (s2) (n2) := (by first | with_reducible exact (hq).of hb | with_reducible exact (hq.al _).of hb | with_reducible exact ((hq.al _).al _).of hb | with_reducible exact (((hq.al _).al _).al _).of hb | with_reducible exact (hq.dr).of hb | with_reducible exact ((hq.al _).dr).of hb | with_reducible exact (((hq.al _).al _).dr).of hb | with_reducible exact (hq.drN _).of hb | with_reducible exact ((hq.al _).drN _).of hb)
    replace hr : Bx w4 (g3) (s3) (n3) := (by first | with_reducible exact (hr).of hb | with_reducible exact (hr.al _).of hb | with_reducible exact ((hr.al _).al _).of hb | with_reducible exact (((hr.al _).al _).al _).of hb | with_reducible exact (hr.dr).of hb | with_reducible exact ((hr.al _).dr).of hb | with_reducible exact (((hr.al _).al _).dr).of hb | with_reducible exact (hr.drN _).of hb | with_reducible exact ((hr.al _).drN _).of hb)
    replace hxy : Bx w4 (w1.heap.size) (xy) (n1 + n2) := (by first | with_reducible exact (hxy).of hb | with_reducible exact (hxy.al _).of hb | with_reducible exact ((hxy.al _).al _).of hb | with_reducible exact (((hxy.al _).al _).al _).of hb | with_reducible exact (hxy.dr).of hb | with_reducible exact ((hxy.al _).dr).of hb | with_reducible exact (((hxy.al _).al _).dr).of hb | with_reducible exact (hxy.drN _).of hb | with_reducible exact ((hxy.al _).drN _).of hb)
    replace hl : Bx w4 (w2.heap.size) (l) (n1 + n2 + n3) := (by first | with_reducible exact (hl).of hb | with_reducible exact (hl.al _).of hb | with_reducible exact ((hl.al _).al _).of hb | with_reducible exact (((hl.al _).al _).al _).of hb | with_reducible exact (hl.dr).of hb | with_reducible exact ((hl.al _).dr).of hb | with_reducible exact (((hl.al _).al _).dr).of hb | with_reducible exact (hl.drN _).of hb | with_reducible exact ((hl.al _).drN _).of hb)
    have hyz : Bx w4 (w3.heap.size) (yz) (n2 + n3) := by first | with_reducible exact (Bx.new w3 _ _).of hb | with_reducible exact ((Bx.new w3 _ _).al _).of hb
    replace fr : Fr w w4 := (by first | with_reducible exact (fr).of hb | with_reducible exact (fr.al _).of hb | with_reducible exact ((fr.al _).al _).of hb | with_reducible exact (((fr.al _).al _).al _).of hb | with_reducible exact (fr.dr).of hb | with_reducible exact ((fr.al _).dr).of hb | with_reducible exact (((fr.al _).al _).dr).of hb | with_reducible exact (fr.drN _).of hb | with_reducible exact ((fr.al _).drN _).of hb)
    clear hb
    have ⟨_, _, _, _, _⟩ := hp.facts
    have ⟨_, _, _, _, _⟩ := hq.facts
    have ⟨_, _, _, _, _⟩ := hr.facts
    have ⟨_, _, _, _, _⟩ := hxy.facts
    have ⟨_, _, _, _, _⟩ := hl.facts
    have ⟨_, _, _, _, _⟩ := hyz.facts
    go_wp2_with fail
    refine (join_any 0 0 s1 n1 (Int.le_refl 0) z1 (by omega) (by omega) _).mono ?_
    rintro e w5 ⟨rfl, hb⟩
    rw [H5.out]
    unfold idErr
    replace hp : Bx w5 (g1) (s1) (n1) := (by first | with_reducible exact (hp).of hb | with_reducible exact (hp.al _).of hb | with_reducible exact ((hp.al _).al _).of hb | with_reducible exact (((hp.al _).al _).al _).of hb | with_reducible exact (hp.dr).of hb | with_reducible exact ((hp.al _).dr).of hb | with_reducible exact (((hp.al _).al _).dr).of hb | with_reducible exact (hp.drN _).of hb | with_reducible exact ((hp.al _).drN _).of hb)
    replace hq : Bx w5 (g2) (s2) (n2) := (by first | with_reducible exact (hq).of hb | with_reducible exact (hq.al _).of hb | with_reducible exact ((hq.al _).al _).of hb | with_reducible exact (((hq.al _).al _).al _).of hb | with_reducible exact (hq.dr).of hb | with_reducible exact ((hq.al _).dr).of hb | with_reducible exact (((hq.al _).al _).dr).of hb | with_reducible exact (hq.drN _).of hb | with_reducible exact ((hq.al _).drN _).of hb)
    replace hr : Bx w5 (g3) (s3) (n3) := (by first | with_reducible exact (hr).of hb | with_reducible exact (hr.al _).of hb | with_reducible exact ((hr.al _).al _).of hb | with_reducible exact (((hr.al _).al _).al _).of hb | with_reducible exact (hr.dr).of hb | with_reducible exact ((hr.al _).dr).of hb | with_reducible exact (((hr.al _).al _).dr).of hb | with_reducible exact (hr.drN _).of hb | with_reducible exact ((hr.al _).drN _).of hb)
    replace hxy : Bx w5 (w1.heap.size) (xy) (n1 + n2) := (by first | with_reducible exact (hxy).of hb | with_reducible exact (hxy.al _).of hb | with_reducible exact ((hxy.al _).al _).of hb | with_reducible exact (((hxy.al _).al _).al _).of hb | with_reducible exact (hxy.dr).of hb | with_reducible exact ((hxy.al _).dr).of hb | with_reducible exact (((hxy.al _).al _).dr).of hb | with_reducible exact (hxy.drN _).of hb | with_reducible exact ((hxy.al _).drN _).of hb)
    replace hl : Bx w5 (w2.heap.size) (l) (n1 + n2 + n3) := (by first | with_reducible exact (hl).of hb | with_reducible exact (hl.al _).of hb | with_reducible exact ((hl.al _).al _).of hb | with_reducible exact (((hl.al _).al _).al _).of hb | with_reducible exact (hl.dr).of hb | with_reducible exact ((hl.al _).dr).of hb | with_reducible exact (((hl.al _).al _).dr).of hb | with_reducible exact (hl.drN _).of hb | with_reducible exact ((hl.al _).drN _).of hb)
    replace hyz : Bx w5 (w3.heap.size) (yz) (n2 + n3) := (by first | with_reducible exact (hyz).of hb | with_reducible exact (hyz.al _).of hb | with_reducible exact ((hyz.al _).al _).of hb | with_reducible exact (((hyz.al _).al _).al _).of hb | with_reducible exact (hyz.dr).of hb | with_reducible exact ((hyz.al _).dr).of hb | with_reducible exact (((hyz.al _).al _).dr).of hb | with_reducible exact (hyz.drN _).of hb | with_reducible exact ((hyz.al _).drN _).of hb)
    have hrr : Bx w5 (w4.heap.size) (l) (n1 + n2 + n3) := by first | with_reducible exact (Bx.new w4 _ _).of hb | with_reducible exact ((Bx.new w4 _ _).al _).of hb
    replace fr : Fr w w5 := (by first | with_reducible exact (fr).of hb | with_reducible exact (fr.al _).of hb | with_reducible exact ((fr.al _).al _).of hb | with_reducible exact (((fr.al _).al _).al _).of hb | with_reducible exact (fr.dr).of hb | with_reducible exact ((fr.al _).dr).of hb | with_reducible exact (((fr.al _).al _).dr).of hb | with_reducible exact (fr.drN _).of hb | with_reducible exact ((fr.al _).drN _).of hb)
    clear hb
    have ⟨_, _, _, _, _⟩ := hp.facts
    have ⟨_, _, _, _, _⟩ := hq.facts
    have ⟨_, _, _, _, _⟩ := hr.facts
    have ⟨_, _, _, _, _⟩ := hxy.facts
    have ⟨_, _, _, _, _⟩ := hl.facts
    have ⟨_, _, _, _, _⟩ := hyz.facts
    have ⟨_, _, _, _, _⟩ := hrr.facts
    go_wp2_with fail
    refine (join_any s1 n1 0 0 z1 (Int.le_refl 0) (by omega) (by omega) _).mono ?_
    rintro e w6 ⟨rfl, hb⟩
    rw [H6.out]
    unfold idErr
    replace hp : Bx w6 (g1) (s1) (n1) := (by first | with_reducible exact (hp).of hb | with_reducible exact (hp.al _).of hb | with_reducible exact ((hp.al _).al _).of hb | with_reducible exact (((hp.al _).al _).al _).of hb | with_reducible exact (hp.dr).of hb | with_reducible exact ((hp.al _).dr).of hb | with_reducible exact (((hp.al _).al _).dr).of hb | with_reducible exact (hp.drN _).of hb | with_reducible exact ((hp.al _).drN _).of hb)
    replace hq : Bx w6 (g2) (s2) (n2) := (by first | with_reducible exact (hq).of hb | with_reducible exact (hq.al _).of hb | with_reducible exact ((hq.al _).al _).of hb | with_reducible exact (((hq.al _).al _).al _).of hb | with_reducible exact (hq.dr).of hb | with_reducible exact ((hq.al _).dr).of hb | with_reducible exact (((hq.al _).al _).dr).of hb | with_reducible exact (hq.drN _).of hb | with_reducible exact ((hq.al _).drN _).of hb)
    replace hr : Bx w6 (g3) (s3) (n3) := (by first | with_reducible exact (hr).of hb | with_reducible exact (hr.al _).of hb | with_reducible exact ((hr.al _).al _).of hb | with_reducible exact (((hr.al _).al _).al _).of hb | with_reducible exact (hr.dr).of hb | with_reducible exact ((hr.al _).dr).of hb | with_reducible exact (((hr.al _).al _).dr).of hb | with_reducible exact (hr.drN _).of hb | with_reducible exact ((hr.al _).drN _).of hb)
    replace hxy : Bx w6 (w1.heap.size) (xy) (n1 + n2) := (by first | with_reducible exact (hxy).of hb | with_reducible exact (hxy.al _).of hb | with_reducible exact ((hxy.al _).al _).of hb | with_reducible exact (((hxy.al _).al _).al _).of hb | with_reducible exact (hxy.dr).of hb | with_reducible exact ((hxy.al _).dr).of hb | with_reducible exact (((hxy.al _).al _).dr).of hb | with_reducible exact (hxy.drN _).of hb | with_reducible exact ((hxy.al _).drN _).of hb)
    replace hl : Bx w6 (w2.heap.size) (l) (n1 + n2 + n3) := (by first | with_reducible exact (hl).of hb | with_reducible exact (hl.al _).of hb | with_reducible exact ((hl.al _).al _).of hb | with_reducible exact (((hl.al _).al _).al _).of hb | with_reducible exact (hl.dr).of hb | with_reducible exact ((hl.al _).dr).of hb | with_reducible exact (((hl.al _).al _).dr).of hb | with_reducible exact (hl.drN _).of hb | with_reducible exact ((hl.al _).drN _).of hb)
    replace hyz : Bx w6 (w3.heap.size) (yz) (n2 + n3) := (by first | with_reducible exact (hyz).of hb | with_reducible exact (hyz.al _).of hb | with_reducible exact ((hyz.al _).al _).of hb | with_reducible exact (((hyz.al _).al _).al _).of hb | with_reducible exact (hyz.dr).of hb | with_reducible exact ((hyz.al _).dr).of hb | with_reducible exact (((hyz.al _).al _).dr).of hb | with_reducible exact (hyz.drN _).of hb | with_reducible exact ((hyz.al _).drN _).of hb)
    replace hrr : Bx w6 (w4.heap.size) (l) (n1 + n2 + n3) := (by first | with_reducible exact (hrr).of hb | with_reducible exact (hrr.al _).of hb | with_reducible exact ((hrr.al _).al _).of hb | with_reducible exact (((hrr.al _).al _).al _).of hb | with_reducible exact (hrr.dr).of hb | with_reducible exact ((hrr.al _).dr).of hb | with_reducible exact (((hrr.al _).al _).dr).of hb | with_reducible exact (hrr.drN _).of hb | with_reducible exact ((hrr.al _).drN _).of hb)
    have hle : Bx w6 (w5.heap.size) (s1) (n1) := by first | with_reducible exact (Bx.new w5 _ _).of hb | with_reducible exact ((Bx.new w5 _ _).al _).of hb
    replace fr : Fr w w6 := (by first | with_reducible exact (fr).of hb | with_reducible exact (fr.al _).of hb | with_reducible exact ((fr.al _).al _).of hb | with_reducible exact (((fr.al _).al _).al _).of hb | with_reducible exact (fr.dr).of hb | with_reducible exact ((fr.al _).dr).of hb | with_reducible exact (((fr.al _).al _).dr).of hb | with_reducible exact (fr.drN _).of hb | with_reducible exact ((fr.al _).drN _).of hb)
    clear hb
    go_wp2_with fail
    have hri := Bx.new w6 s1 n1
    replace hp := hp.al (.cells #[.int .u64 s1, .int .i64 n1] 24)
    replace hl := hl.al (.cells #[.int .u64 s1, .int .i64 n1] 24)
    replace hrr := hrr.al (.cells #[.int .u64 s1, .int .i64 n1] 24)
    replace hle := hle.al (.cells #[.int .u64 s1, .int .i64 n1] 24)
    replace fr := fr.al (.cells #[.int .u64 s1, .int .i64 n1] 24)
    refine (known22_any _).mono ?_
    rintro e w7 ⟨rfl, hb⟩
    have ⟨_, _, _, _, _⟩ := (hp.of hb).facts
    have ⟨_, _, _, _, _⟩ := (hl.of hb).facts
    have ⟨_, _, _, _, _⟩ := (hrr.of hb).facts
    have ⟨_, _, _, _, _⟩ := (hle.of hb).facts
    have ⟨_, _, _, _, _⟩ := (hri.of hb).facts
    have fr5 := fr.of hb
    clear hb
    go_wp2_with fail
    go_ret
    exact ⟨ret_bool (by simp), fr5.b⟩

end Go.Proofs.Ytadldlijmnohhaa
