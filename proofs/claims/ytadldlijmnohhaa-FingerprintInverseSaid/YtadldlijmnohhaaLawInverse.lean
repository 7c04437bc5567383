/-
  stockyardlaw22.FingerprintInverse returns true.
-/
import Derived.Test.YtadldlijmnohhaaJoinLaws
import Derived.Test.YtadldlijmnohhaaRest
import Derived.Test.YtadldlijmnohhaaRegR
import Derived.Test.YtadldlijmnohhaaMade
import Derived.Test.YtadldlijmnohhaaKnown22
import Derived.Deep.DeepCutAuto
namespace Go.Proofs.Ytadldlijmnohhaa
set_option linter.unusedVariables false
set_option linter.unusedSimpArgs false
set_option linter.unnecessarySimpa false
open Go.RowKit
attribute [local go_sem ↓] Go.wp_at_zero Go.wp_at_succ

/-- Rest of a Join by its first part is the second part -/
theorem rest_join {a b c d : Int} (h1 : vldB a b = true) (h2 : vldB c d = true) (h : b + d ≤ 1048576) (c0 : 0 ≤ c) : restR (fadd (fmul a (powI d)) c) (b + d) a b = (c, d, 0) := by
  have e : b + d - b = d := by omega
  have hs : restS (fadd (fmul a (powI d)) c) (b + d) a b = c := by unfold restS; rw [e, fsub_fadd (vld_fp h2 c0)]
  obtain ⟨d0, d1, c1, e2⟩ := vldB_iff.1 h2
  rw [restR_ok (join_vld h1 h2 h) h1 (by omega) (by rw [hs, e]; intro ⟨x, y⟩; rcases e2 with e2 | e2 <;> omega), hs, e]
/-- every Rest can be joined again -/
theorem join_rest {a b c d : Int} (h1 : vldB a b = true) (h2 : vldB c d = true) (h : b < d) (c0 : 0 ≤ c) :
    restR c d a b = (restS c d a b, d - b, 0) ∧ joinR a b (restS c d a b) (d - b) = (c, d, 0) := by
  obtain ⟨b0, b1, a1, e1⟩ := vldB_iff.1 h1
  obtain ⟨d0, d1, c1, e2⟩ := vldB_iff.1 h2
  refine ⟨restR_ok h2 h1 (by omega) (by omega), ?_⟩
  rw [joinR_ok h1 (vldB_iff.2 ⟨by omega, by omega, (restS_fp _ _ _ _).2, .inl (by omega)⟩) (by omega)]
  unfold restS
  rw [fadd_fsub (vld_fp h2 c0), show b + (d - b) = d by omega]

set_option maxHeartbeats 2000000 in
set_option maxRecDepth 8000 in
theorem lawInverse_any (a b c d : Int) (a0 : 0 ≤ a) (a1 : a < 18446744073709551616) (b0 : -9223372036854775808 ≤ b) (b1 : b ≤ 9223372036854775807) (c0 : 0 ≤ c) (c1 : c < 18446744073709551616) (d0 : -9223372036854775808 ≤ d) (d1 : d ≤ 9223372036854775807) (w : World) :
    Calls Try.prog 14 #[.agg #[.int .u64 a, .int .i64 b], .agg #[.int .u64 c, .int .i64 d]] w fun e w' => e = .returned (.bool true) ∧ Below w.heap.size w w' := by
  go_enter Try.func14, Try.ntmps14
  go_wp2_with fail
  have ha := ((Bx.new w a b).al (.cells #[.int .u64 c, .int .i64 d] 24))
  have hc := (Bx.new' (w := w.alloc (.cells #[.int .u64 a, .int .i64 b] 24)) (g := w.heap.size + 1) c d (by simp))
  have fr := (((Fr.refl w).al (.cells #[.int .u64 a, .int .i64 b] 24)).al (.cells #[.int .u64 c, .int .i64 d] 24))
  go_outline
  go_cut [5, 6] (fun s5 s6 wx => ∃ g1 g2, s5 = .pointer (some ⟨g1, 0, none⟩) ∧ s6 = .pointer (some ⟨g2, 0, none⟩) ∧ Bx wx g1 (madeS a b 524288) (foldI b (524288 + 1)) ∧ Bx wx g2 (madeS c d 524288) (foldI d (524288 + 1)) ∧ Fr w wx)
  case first =>
    refine wp_region_grew (by kernel_rfl) ?_
    replace ha := ha.dr
    replace hc := hc.dr
    replace fr := fr.dr
    refine wpAnyG_takeL (i := 0) (v := ?_) rfl (by kernel_rfl) (by kernel_rfl) (by kernel_rfl) (by kernel_rfl) (fun _ _ _ h => h) ⟨by rfl, fun w' hw' => Or.inl ?hy0⟩ ?_
    case hy0 => (obtain ⟨_, _, _, _, _⟩ := (ha.up hw').facts; obtain ⟨_, _, _, _, _⟩ := (hc.up hw').facts; go_simp) <;> with_reducible rfl
    try simp only [Act.put, List.setIfInBounds_toArray, List.set_cons_zero, List.set_cons_succ]
    refine wpAnyG_takeL (i := 1) (v := ?_) rfl (by kernel_rfl) (by kernel_rfl) (by kernel_rfl) (by kernel_rfl) (fun _ _ _ h => h) ⟨by rfl, fun w' hw' => Or.inl ?hy1⟩ ?_
    case hy1 => (obtain ⟨_, _, _, _, _⟩ := (ha.up hw').facts; obtain ⟨_, _, _, _, _⟩ := (hc.up hw').facts; go_simp) <;> with_reducible rfl
    try simp only [Act.put, List.setIfInBounds_toArray, List.set_cons_zero, List.set_cons_succ]
    refine wpAnyG_takeL (i := 2) (v := ?_) rfl (by kernel_rfl) (by kernel_rfl) (by kernel_rfl) (by kernel_rfl) (fun _ _ _ h => h) ⟨by rfl, fun w' hw' => Or.inl ?hy2⟩ ?_
    case hy2 => (obtain ⟨_, _, _, _, _⟩ := (ha.up hw').facts; obtain ⟨_, _, _, _, _⟩ := (hc.up hw').facts; go_simp) <;> with_reducible rfl
    try simp only [Act.put, List.setIfInBounds_toArray, List.set_cons_zero, List.set_cons_succ]
    refine wpAnyG_takeL (i := 3) (v := ?_) rfl (by kernel_rfl) (by kernel_rfl) (by kernel_rfl) (by kernel_rfl) (fun _ _ _ h => h) ⟨by rfl, fun w' hw' => Or.inl ?hy3⟩ ?_
    case hy3 => (obtain ⟨_, _, _, _, _⟩ := (ha.up hw').facts; obtain ⟨_, _, _, _, _⟩ := (hc.up hw').facts; go_simp) <;> with_reducible rfl
    try simp only [Act.put, List.setIfInBounds_toArray, List.set_cons_zero, List.set_cons_succ]
    refine wpAnyG_takeL (i := 5) (v := ?_) rfl (by kernel_rfl) (by kernel_rfl) (by kernel_rfl) (by kernel_rfl) (fun _ _ _ h => h) ⟨by rfl, fun w' hw' => Or.inl ?hy5⟩ ?_
    case hy5 => (obtain ⟨_, _, _, _, _⟩ := (ha.up hw').facts; obtain ⟨_, _, _, _, _⟩ := (hc.up hw').facts; go_simp) <;> with_reducible rfl
    try simp only [Act.put, List.setIfInBounds_toArray, List.set_cons_zero, List.set_cons_succ]
    refine wpAnyG_takeL (i := 6) (v := ?_) rfl (by kernel_rfl) (by kernel_rfl) (by kernel_rfl) (by kernel_rfl) (fun _ _ _ h => h) ⟨by rfl, fun w' hw' => Or.inl ?hy6⟩ ?_
    case hy6 => (obtain ⟨_, _, _, _, _⟩ := (ha.up hw').facts; obtain ⟨_, _, _, _, _⟩ := (hc.up hw').facts; go_simp) <;> with_reducible rfl
    try simp only [Act.put, List.setIfInBounds_toArray, List.set_cons_zero, List.set_cons_succ]
    refine wpAnyG_takeL (i := 7) (v := ?_) rfl (by kernel_rfl) (by kernel_rfl) (by kernel_rfl) (by kernel_rfl) (fun _ _ _ h => h) ⟨by rfl, fun w' hw' => Or.inl ?hy7⟩ ?_
    case hy7 => (obtain ⟨_, _, _, _, _⟩ := (ha.up hw').facts; obtain ⟨_, _, _, _, _⟩ := (hc.up hw').facts; go_simp) <;> with_reducible rfl
    try simp only [Act.put, List.setIfInBounds_toArray, List.set_cons_zero, List.set_cons_succ]
    refine wpAnyG_takeL (i := 8) (v := ?_) rfl (by kernel_rfl) (by kernel_rfl) (by kernel_rfl) (by kernel_rfl) (fun _ _ _ h => h) ⟨by rfl, fun w' hw' => Or.inl ?hy8⟩ ?_
    case hy8 => (obtain ⟨_, _, _, _, _⟩ := (ha.up hw').facts; obtain ⟨_, _, _, _, _⟩ := (hc.up hw').facts; go_simp) <;> with_reducible rfl
    try simp only [Act.put, List.setIfInBounds_toArray, List.set_cons_zero, List.set_cons_succ]
    refine wpAnyG_takeL (i := 4) (v := ?_) rfl (by kernel_rfl) (by kernel_rfl) (by kernel_rfl) (by kernel_rfl) (fun _ _ _ h => h) ⟨by rfl, fun w' hw' => Or.inr ⟨?hf4, ?ha4, ?he4, ?hy4⟩⟩ ?_
    case he4 => go_simp <;> first | (refine ⟨?_, ?_⟩ <;> with_reducible rfl) | with_reducible rfl
    case hy4 => exact made_any a b 524288 a0 a1 b0 b1 (by omega) (by omega) _
    try simp only [Act.put, List.setIfInBounds_toArray, List.set_cons_zero, List.set_cons_succ]
    refine wpAnyG_takeL (i := 9) (v := ?_) rfl (by kernel_rfl) (by kernel_rfl) (by kernel_rfl) (by kernel_rfl) (fun _ _ _ h => h) ⟨by rfl, fun w' hw' => Or.inr ⟨?hf9, ?ha9, ?he9, ?hy9⟩⟩ ?_
    case he9 => go_simp <;> first | (refine ⟨?_, ?_⟩ <;> with_reducible rfl) | with_reducible rfl
    case hy9 => exact made_any c d 524288 c0 c1 d0 d1 (by omega) (by omega) _
    try simp only [Act.put, List.setIfInBounds_toArray, List.set_cons_zero, List.set_cons_succ]
    clear ha hc
    refine wpAnyG_ready (rs := [10, 11]) (by kernel_rfl) (by simp) (fun wg hg => ?_)
    replace fr := fr.up hg
    clear hg
    refine AllReadyG.consL rfl (fun K hK => ?_) ?_
    · go_simp
      refine hK.out _ _ (.inr (grew_alloc _ _)) ?_
      clear hK K
      try simp only [Act.put, List.setIfInBounds_toArray, List.set_cons_zero, List.set_cons_succ]
      have gge_hp := fr.b.size
      have hp := Bx.new wg 0 0
      replace fr := fr.al (.cells #[.int .u64 0, .int .i64 0] 24)
      generalize wg.alloc (.cells #[.int .u64 0, .int .i64 0] 24) = wa at *
      generalize wg.heap.size = ga at *
      refine wpAnyG_ready (rs := [11]) (by kernel_rfl) (by simp) (fun wg hg => ?_)
      replace fr := fr.up hg
      replace hp := hp.up hg
      clear hg
      refine AllReadyG.consL rfl (fun K hK => ?_) ?_
      · go_simp
        refine hK.out _ _ (.inr (grew_alloc _ _)) ?_
        clear hK K
        try simp only [Act.put, List.setIfInBounds_toArray, List.set_cons_zero, List.set_cons_succ]
        have gge_hq := fr.b.size
        have ne_hq_hp := Nat.ne_of_gt hp.lt
        have hq := Bx.new wg 0 0
        replace fr := fr.al (.cells #[.int .u64 0, .int .i64 0] 24)
        replace hp := hp.al (.cells #[.int .u64 0, .int .i64 0] 24)
        generalize wg.alloc (.cells #[.int .u64 0, .int .i64 0] 24) = wa at *
        generalize wg.heap.size = ga at *
        refine wpAnyG_ready (rs := [12]) (by kernel_rfl) (by simp) (fun wg hg => ?_)
        replace fr := fr.up hg
        replace hp := hp.up hg
        replace hq := hq.up hg
        clear hg
        refine AllReadyG.consL rfl (fun K hK => ?_) AllReadyG.nil
        obtain ⟨zc0, zc1, zf0, zf1, zlt⟩ := hp
        go_simp
        refine hK.out _ _ (.inl (by kernel_rfl)) ?_
        clear hK K
        try simp only [Act.put, List.setIfInBounds_toArray, List.set_cons_zero, List.set_cons_succ]
        replace hp := (Bx.mk zc0 zc1 zf0 zf1 zlt).stored (madeS a b 524288) (foldI b (524288 + 1))
        clear zc0 zc1 zf0 zf1 zlt
        replace fr := fr.stored gge_hp (.int .u64 (madeS a b 524288)) (.int .i64 (foldI b (524288 + 1)))
        replace hq := hq.far (by first | exact ne_hp_hq | exact Ne.symm ne_hq_hp) (.int .u64 (madeS a b 524288)) (.int .i64 (foldI b (524288 + 1)))
        refine wpAnyG_ready (rs := [13]) (by kernel_rfl) (by simp) (fun wg hg => ?_)
        replace fr := fr.up hg
        replace hp := hp.up hg
        replace hq := hq.up hg
        clear hg
        refine AllReadyG.consL rfl (fun K hK => ?_) AllReadyG.nil
        obtain ⟨zc0, zc1, zf0, zf1, zlt⟩ := hq
        go_simp
        refine hK.out _ _ (.inl (by kernel_rfl)) ?_
        clear hK K
        try simp only [Act.put, List.setIfInBounds_toArray, List.set_cons_zero, List.set_cons_succ]
        replace hq := (Bx.mk zc0 zc1 zf0 zf1 zlt).stored (madeS c d 524288) (foldI d (524288 + 1))
        clear zc0 zc1 zf0 zf1 zlt
        replace fr := fr.stored gge_hq (.int .u64 (madeS c d 524288)) (.int .i64 (foldI d (524288 + 1)))
        replace hp := hp.far (by first | exact ne_hq_hp | exact Ne.symm ne_hp_hq) (.int .u64 (madeS c d 524288)) (.int .i64 (foldI d (524288 + 1)))
        refine wpAnyG_done (by kernel_rfl) (fun wg hg => ?_) _
        replace fr := fr.up hg
        replace hp := hp.up hg
        replace hq := hq.up hg
        clear hg
        (go_wp2_with fail; go_meet; exact ⟨_, _, rfl, rfl, hp, hq, fr⟩)
      exact AllReadyG.nil
    refine AllReadyG.consL rfl (fun K hK => ?_) ?_
    · go_simp
      refine hK.out _ _ (.inr (grew_alloc _ _)) ?_
      clear hK K
      try simp only [Act.put, List.setIfInBounds_toArray, List.set_cons_zero, List.set_cons_succ]
      have gge_hq := fr.b.size
      have hq := Bx.new wg 0 0
      replace fr := fr.al (.cells #[.int .u64 0, .int .i64 0] 24)
      generalize wg.alloc (.cells #[.int .u64 0, .int .i64 0] 24) = wa at *
      generalize wg.heap.size = ga at *
      refine wpAnyG_ready (rs := [10]) (by kernel_rfl) (by simp) (fun wg hg => ?_)
      replace fr := fr.up hg
      replace hq := hq.up hg
      clear hg
      refine AllReadyG.consL rfl (fun K hK => ?_) ?_
      · go_simp
        refine hK.out _ _ (.inr (grew_alloc _ _)) ?_
        clear hK K
        try simp only [Act.put, List.setIfInBounds_toArray, List.set_cons_zero, List.set_cons_succ]
        have gge_hp := fr.b.size
        have ne_hp_hq := Nat.ne_of_gt hq.lt
        have hp := Bx.new wg 0 0
        replace fr := fr.al (.cells #[.int .u64 0, .int .i64 0] 24)
        replace hq := hq.al (.cells #[.int .u64 0, .int .i64 0] 24)
        generalize wg.alloc (.cells #[.int .u64 0, .int .i64 0] 24) = wa at *
        generalize wg.heap.size = ga at *
        refine wpAnyG_ready (rs := [12]) (by kernel_rfl) (by simp) (fun wg hg => ?_)
        replace fr := fr.up hg
        replace hq := hq.up hg
        replace hp := hp.up hg
        clear hg
        refine AllReadyG.consL rfl (fun K hK => ?_) AllReadyG.nil
        obtain ⟨zc0, zc1, zf0, zf1, zlt⟩ := hp
        go_simp
        refine hK.out _ _ (.inl (by kernel_rfl)) ?_
        clear hK K
        try simp only [Act.put, List.setIfInBounds_toArray, List.set_cons_zero, List.set_cons_succ]
        replace hp := (Bx.mk zc0 zc1 zf0 zf1 zlt).stored (madeS a b 524288) (foldI b (524288 + 1))
        clear zc0 zc1 zf0 zf1 zlt
        replace fr := fr.stored gge_hp (.int .u64 (madeS a b 524288)) (.int .i64 (foldI b (524288 + 1)))
        replace hq := hq.far (by first | exact ne_hp_hq | exact Ne.symm ne_hq_hp) (.int .u64 (madeS a b 524288)) (.int .i64 (foldI b (524288 + 1)))
        refine wpAnyG_ready (rs := [13]) (by kernel_rfl) (by simp) (fun wg hg => ?_)
        replace fr := fr.up hg
        replace hq := hq.up hg
        replace hp := hp.up hg
        clear hg
        refine AllReadyG.consL rfl (fun K hK => ?_) AllReadyG.nil
        obtain ⟨zc0, zc1, zf0, zf1, zlt⟩ := hq
        go_simp
        refine hK.out _ _ (.inl (by kernel_rfl)) ?_
        clear hK K
        try simp only [Act.put, List.setIfInBounds_toArray, List.set_cons_zero, List.set_cons_succ]
        replace hq := (Bx.mk zc0 zc1 zf0 zf1 zlt).stored (madeS c d 524288) (foldI d (524288 + 1))
        clear zc0 zc1 zf0 zf1 zlt
        replace fr := fr.stored gge_hq (.int .u64 (madeS c d 524288)) (.int .i64 (foldI d (524288 + 1)))
        replace hp := hp.far (by first | exact ne_hq_hp | exact Ne.symm ne_hp_hq) (.int .u64 (madeS c d 524288)) (.int .i64 (foldI d (524288 + 1)))
        refine wpAnyG_done (by kernel_rfl) (fun wg hg => ?_) _
        replace fr := fr.up hg
        replace hq := hq.up hg
        replace hp := hp.up hg
        clear hg
        (go_wp2_with fail; go_meet; exact ⟨_, _, rfl, rfl, hp, hq, fr⟩)
      exact AllReadyG.nil
    exact AllReadyG.nil
  case rest =>
    obtain ⟨g1, g2, rfl, rfl, hp, hq, fr⟩ := hcut
    clear ha hc
    have p1 := made_vld a b 524288 (by omega) (by omega)
    have p2 := made_vld c d 524288 (by omega) (by omega)
    have q1 := foldI_hi b (524288 + 1) (by omega)
    have q2 := foldI_hi d (524288 + 1) (by omega)
    have m1 := foldI_lo b (524288 + 1)
    have m2 := foldI_lo d (524288 + 1)
    have z1 : (0 : Int) ≤ madeS a b 524288 := (madeS_fp a b 524288).1
    have z2 : (0 : Int) ≤ madeS c d 524288 := (madeS_fp c d 524288).1
    generalize madeS a b 524288 = s1 at *
    generalize madeS c d 524288 = s2 at *
    generalize foldI b (524288 + 1) = n1 at *
    generalize foldI d (524288 + 1) = n2 at *
    obtain ⟨xy, J1, J2, zxy⟩ : ∃ xy : Int, joinR s1 n1 s2 n2 = (xy, n1 + n2, 0) ∧ restR xy (n1 + n2) s1 n1 = (s2, n2, 0) ∧ 0 ≤ xy := ⟨_, joinR_ok p1 p2 (by omega), rest_join p1 p2 (by omega) z2, fadd_lo _ _⟩
    have H1 := Lib.hid J1
    have H2 := Lib.hid J2
    clear J1 J2
    have ⟨_, _, _, _, _⟩ := hp.facts
    have ⟨_, _, _, _, _⟩ := hq.facts
    go_wp2_with fail
    refine (join_any s1 n1 s2 n2 z1 z2 (by omega) (by omega) _).mono ?_
    rintro e w1 ⟨rfl, hb⟩
    rw [H1.out]
    unfold idErr
    replace hp : Bx w1 g1 s1 n1 := (by first | with_reducible exact (hp).of hb | with_reducible exact (hp.al _).of hb | with_reducible exact ((hp.al _).al _).of hb | with_reducible exact (((hp.al _).al _).al _).of hb | with_reducible exact (hp.dr).of hb | with_reducible exact ((hp.al _).dr).of hb | with_reducible exact (((hp.al _).al _).dr).of hb | with_reducible exact (hp.drN _).of hb | with_reducible exact ((hp.al _).drN _).of hb)
    replace hq : Bx w1 g2 s2 n2 := (by first | with_reducible exact (hq).of hb | with_reducible exact (hq.al _).of hb | with_reducible exact ((hq.al _).al _).of hb | with_reducible exact (((hq.al _).al _).al _).of hb | with_reducible exact (hq.dr).of hb | with_reducible exact ((hq.al _).dr).of hb | with_reducible exact (((hq.al _).al _).dr).of hb | with_reducible exact (hq.drN _).of hb | with_reducible exact ((hq.al _).drN _).of hb)
    replace fr : Fr w w1 := (by first | with_reducible exact (fr).of hb | with_reducible exact (fr.al _).of hb | with_reducible exact ((fr.al _).al _).of hb | with_reducible exact (((fr.al _).al _).al _).of hb | with_reducible exact (fr.dr).of hb | with_reducible exact ((fr.al _).dr).of hb | with_reducible exact (((fr.al _).al _).dr).of hb | with_reducible exact (fr.drN _).of hb | with_reducible exact ((fr.al _).drN _).of hb)
    clear hb
    have ⟨_, _, _, _, _⟩ := hp.facts
    have ⟨_, _, _, _, _⟩ := hq.facts
    go_wp2_with fail
    refine (rest_any xy (n1 + n2) s1 n1 zxy z1 (by omega) (by omega) _).mono ?_
    rintro e w2 ⟨rfl, hb⟩
    rw [H2.out]
    unfold idErr
    replace hp : Bx w2 g1 s1 n1 := (by first | with_reducible exact (hp).of hb | with_reducible exact (hp.al _).of hb | with_reducible exact ((hp.al _).al _).of hb | with_reducible exact (((hp.al _).al _).al _).of hb | with_reducible exact (hp.dr).of hb | with_reducible exact ((hp.al _).dr).of hb | with_reducible exact (((hp.al _).al _).dr).of hb | with_reducible exact (hp.drN _).of hb | with_reducible exact ((hp.al _).drN _).of hb)
    replace hq : Bx w2 g2 s2 n2 := (by first | with_reducible exact (hq).of hb | with_reducible exact (hq.al _).of hb | with_reducible exact ((hq.al _).al _).of hb | with_reducible exact (((hq.al _).al _).al _).of hb | with_reducible exact (hq.dr).of hb | with_reducible exact ((hq.al _).dr).of hb | with_reducible exact (((hq.al _).al _).dr).of hb | with_reducible exact (hq.drN _).of hb | with_reducible exact ((hq.al _).drN _).of hb)
    replace fr : Fr w w2 := (by first | with_reducible exact (fr).of hb | with_reducible exact (fr.al _).of hb | with_reducible exact ((fr.al _).al _).of hb | with_reducible exact (((fr.al _).al _).al _).of hb | with_reducible exact (fr.dr).of hb | with_reducible exact ((fr.al _).dr).of hb | with_reducible exact (((fr.al _).al _).dr).of hb | with_reducible exact (fr.drN _).of hb | with_reducible exact ((fr.al _).drN _).of hb)
    clear hb
    go_wp2_with fail
    refine (known22_any _).mono ?_
    rintro e w3 ⟨rfl, hb⟩
    have hr : Bx w3 w2.heap.size s2 n2 := (Bx.new w2 s2 n2).of hb
    replace hp : Bx w3 g1 s1 n1 := (by first | with_reducible exact (hp).of hb | with_reducible exact (hp.al _).of hb | with_reducible exact ((hp.al _).al _).of hb | with_reducible exact (((hp.al _).al _).al _).of hb | with_reducible exact (hp.dr).of hb | with_reducible exact ((hp.al _).dr).of hb | with_reducible exact (((hp.al _).al _).dr).of hb | with_reducible exact (hp.drN _).of hb | with_reducible exact ((hp.al _).drN _).of hb)
    replace hq : Bx w3 g2 s2 n2 := (by first | with_reducible exact (hq).of hb | with_reducible exact (hq.al _).of hb | with_reducible exact ((hq.al _).al _).of hb | with_reducible exact (((hq.al _).al _).al _).of hb | with_reducible exact (hq.dr).of hb | with_reducible exact ((hq.al _).dr).of hb | with_reducible exact (((hq.al _).al _).dr).of hb | with_reducible exact (hq.drN _).of hb | with_reducible exact ((hq.al _).drN _).of hb)
    replace fr : Fr w w3 := (by first | with_reducible exact (fr).of hb | with_reducible exact (fr.al _).of hb | with_reducible exact ((fr.al _).al _).of hb | with_reducible exact (((fr.al _).al _).al _).of hb | with_reducible exact (fr.dr).of hb | with_reducible exact ((fr.al _).dr).of hb | with_reducible exact (((fr.al _).al _).dr).of hb | with_reducible exact (fr.drN _).of hb | with_reducible exact ((fr.al _).drN _).of hb)
    clear hb
    have ⟨_, _, _, _, _⟩ := hp.facts
    have ⟨_, _, _, _, _⟩ := hq.facts
    have ⟨_, _, _, _, _⟩ := hr.facts
    by_cases hs : n1 < n2
    · obtain ⟨K1, K2⟩ := join_rest p1 p2 hs z2
      have zr := (restS_fp s2 n2 s1 n1).1
      have hs' : ¬ (n2 ≤ n1) := by omega
      generalize restS s2 n2 s1 n1 = rs at *
      have H3 := Lib.hid K1
      have H4 := Lib.hid K2
      clear K1 K2
      go_wp2_with fail
      refine (rest_any s2 n2 s1 n1 z2 z1 (by omega) (by omega) _).mono ?_
      rintro e w4 ⟨rfl, hb⟩
      rw [H3.out]
      unfold idErr
      replace hp : Bx w4 g1 s1 n1 := (by first | with_reducible exact (hp).of hb | with_reducible exact (hp.al _).of hb | with_reducible exact ((hp.al _).al _).of hb | with_reducible exact (((hp.al _).al _).al _).of hb | with_reducible exact (hp.dr).of hb | with_reducible exact ((hp.al _).dr).of hb | with_reducible exact (((hp.al _).al _).dr).of hb | with_reducible exact (hp.drN _).of hb | with_reducible exact ((hp.al _).drN _).of hb)
      replace hq : Bx w4 g2 s2 n2 := (by first | with_reducible exact (hq).of hb | with_reducible exact (hq.al _).of hb | with_reducible exact ((hq.al _).al _).of hb | with_reducible exact (((hq.al _).al _).al _).of hb | with_reducible exact (hq.dr).of hb | with_reducible exact ((hq.al _).dr).of hb | with_reducible exact (((hq.al _).al _).dr).of hb | with_reducible exact (hq.drN _).of hb | with_reducible exact ((hq.al _).drN _).of hb)
      replace fr : Fr w w4 := (by first | with_reducible exact (fr).of hb | with_reducible exact (fr.al _).of hb | with_reducible exact ((fr.al _).al _).of hb | with_reducible exact (((fr.al _).al _).al _).of hb | with_reducible exact (fr.dr).of hb | with_reducible exact ((fr.al _).dr).of hb | with_reducible exact (((fr.al _).al _).dr).of hb | with_reducible exact (fr.drN _).of hb | with_reducible exact ((fr.al _).drN _).of hb)
      clear hb
      have ⟨_, _, _, _, _⟩ := hp.facts
      have ⟨_, _, _, _, _⟩ := hq.facts
      go_wp2_with fail
      refine (join_any s1 n1 rs (n2 - n1) z1 zr (by omega) (by omega) _).mono ?_
      rintro e w5 ⟨rfl, hb⟩
      rw [H4.out]
      unfold idErr
      replace hq : Bx w5 g2 s2 n2 := (by first | with_reducible exact (hq).of hb | with_reducible exact (hq.al _).of hb | with_reducible exact ((hq.al _).al _).of hb | with_reducible exact (((hq.al _).al _).al _).of hb | with_reducible exact (hq.dr).of hb | with_reducible exact ((hq.al _).dr).of hb | with_reducible exact (((hq.al _).al _).dr).of hb | with_reducible exact (hq.drN _).of hb | with_reducible exact ((hq.al _).drN _).of hb)
      replace fr : Fr w w5 := (by first | with_reducible exact (fr).of hb | with_reducible exact (fr.al _).of hb | with_reducible exact ((fr.al _).al _).of hb | with_reducible exact (((fr.al _).al _).al _).of hb | with_reducible exact (fr.dr).of hb | with_reducible exact ((fr.al _).dr).of hb | with_reducible exact (((fr.al _).al _).dr).of hb | with_reducible exact (fr.drN _).of hb | with_reducible exact ((fr.al _).drN _).of hb)
      clear hb
      have ⟨_, _, _, _, _⟩ := hq.facts
      go_wp2_with fail
      go_ret
      exact ⟨ret_bool (by simp), (fr.al _).b⟩
    · have hs' : n2 ≤ n1 := by omega
      go_wp2_with fail
      go_ret
      exact ⟨ret_bool (by simp), fr.b⟩

end Go.Proofs.Ytadldlijmnohhaa
