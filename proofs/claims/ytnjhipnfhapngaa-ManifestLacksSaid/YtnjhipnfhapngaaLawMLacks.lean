/-
  stockyardlaw25.ManifestLacks returns true.
-/
import Derived.Test.YtnjhipnfhapngaaKnown25
import Derived.Test.YtnjhipnfhapngaaRight25
import Derived.Test.YtnjhipnfhapngaaMiss25
import Derived.Test.YtnjhipnfhapngaaBuild25
namespace Go.Proofs.Ytnjhipnfhapngaa
set_option linter.unusedVariables false
set_option linter.unusedSimpArgs false
set_option linter.unnecessarySimpa false
open Go.RowKit
attribute [local go_sem ↓] Go.wp_at_zero Go.wp_at_succ


set_option maxRecDepth 4000 in
set_option maxHeartbeats 2000000 in
theorem lawMLacks_any (A : Option Addr) (cap : Nat) (ls : List Int) (R : Option Addr) (rc : Nat) (rl : List IdZ) (w : World) (hr : Row w w.heap.size A (ls.map (.int .i64))) (hz : ∀ z ∈ ls, -9223372036854775808 ≤ z ∧ z ≤ 9223372036854775807) (hm : ls.length ≤ 9223372036854775807) (hraw : Row w w.heap.size R (idsC rl)) (hrw : ∀ x ∈ rl, WfI x) (hrl : rl.length * 16 ≤ 140737488351232) :
    Calls Try.prog 7 #[.slice A ls.length cap, .slice R rl.length rc] w fun e w' => e = .returned (.bool true) ∧ Below w.heap.size w w' := by
  have hT := Tp.new (cap := cap) hr (Nat.le_refl _) hz hm
  have g0 := grew_alloc w (.cells #[.slice A ls.length cap, .int .i64 0] 26)
  have hch0 : Ch (At w.heap.size) w (w.alloc (.cells #[.slice A ls.length cap, .int .i64 0] 26)) := Ch.of_below g0
  clear hz g0 hr
  go_enter Try.func7, Try.ntmps7
  go_wp2_with fail
  generalize w.alloc (.cells #[.slice A ls.length cap, .int .i64 0] 26) = w1 at *
  refine (pieces25_any _ _ _ 7 _ hT (by omega) (by omega)).mono ?_
  rintro e w2 ⟨Ap, cp, ps, rfl, hpl, hS, hownp, hTx, hT2, hch, hcaps⟩
  have hb2 : Grew w w2 := (hch0.trans hch).below (Nat.le_refl _) (fun i hi => by rw [hi]; exact Nat.le_refl _)
  replace hraw := hraw.ch (hch0.trans hch) (Nat.le_refl _) (fun i hi => by rw [hi]; exact Nat.le_refl _)
  have htl0 := hT.lt
  have htl := hT2.lt
  clear hT hch hch0
  have hsm := small_sum hS
  have HPm := Lib.hid (small_pm hS)
  have HCaps := Lib.hid hcaps
  clear hcaps
  go_wp2_with fail
  refine (refOf25_any Ap cp _ _ ps w2 hownp hTx (fun p hp => (hS p hp).2.2) (by omega) (by have : totP ps ≤ 1073741824 := by omega
                                                                                           exact this)).mono ?_
  rintro e w3 ⟨A2, c2, rfl, hown2, hb⟩
  rw [totP_of]
  replace hT2 := hT2.of hb
  replace hownp := own_below hownp hb
  replace hTx := hTx.of hb
  replace hraw := hraw.up hb hb2.size
  replace hb2 := Grew.trans hb2 hb
  have htl3 := hT2.lt
  clear hb
  go_wp2_with fail
  refine (right25_any Ap cp ps w3 (own_row hownp) hTx.lie HPm.out (by omega)).mono ?_
  rintro e w4 ⟨A3, c3, rfl, hown3, hb⟩
  have hM := Blk.new w4 31 #[.int .i64 (totP ps : Nat), .slice A2 ps.length c2]
  have gM := grew_alloc w4 (.cells #[.int .i64 (totP ps : Nat), .slice A2 ps.length c2] 31)
  have hgm : ¬ At w.heap.size w4.heap.size := by have := hb.size; have := hb2.size; show ¬ _ = _; omega
  have h13 := Grew.trans hb gM
  have hb4 := Grew.trans hb2 h13
  have hT4 := hT2.of h13
  have hTx4 := hTx.of h13
  have hown4 := own_below hown2 h13
  have hownR := own_below hown3 gM
  have hraw4 := hraw.up h13 hb2.size
  clear hb gM h13 hb2 hT2 hownp hTx hown2 hown3 hraw
  go_upto_region 4 with (fail)
  generalize w4.alloc (.cells #[.int .i64 (totP ps : Nat), .slice A2 ps.length c2] 31) = w9 at *
  generalize w4.heap.size = gm at *
  clear w4
  have hck := small_chk hS (by omega)
  rw [totP_of] at hck
  have HCk := Lib.hid hck
  have HWI := Lib.hid (small_wf hS)
  have n7 : ps.length ≤ 7 := by omega
  have n72 : totP ps ≤ 63 := by omega
  have htw := hT4.lt
  have hwt : w.heap.size ≤ w9.heap.size := by omega
  have hwt1 := Below.size hb4
  have HQ := Lib.hid (fun k (hk : k < ps.length) W (h : Ch (At w.heap.size) w9 W) => right_at (hownR) hk h (fun g hg hs => by have := own_lt hownR g hg; have h' : g = w.heap.size := hs; omega))
  have hc2 := own_cap hown4
  clear hck hS
  go_wp2_with (at_builtin; refine wpList_append_row rfl (.const (.slice none 0 0)) (.tmp 28) rfl w9.heap.size elem_id (by rfl) (World.ownsRow_nil _ _ _ _) _ (by rfl) (idsC_len rl) hraw4 (ones_ids rl) (by unfold maxLen; omega) (by omega) (Nat.le_refl _) ?_; intro A9 c9 w10 hown9 hg9 _)
  have hg10 : Grew w9 w10 := grew_nil hg9
  have hch10 : Ch (At w.heap.size) w9 w10 := Ch.of_below hg10
  rw [List.nil_append, Nat.zero_add] at hown9
  have hT10 := hT4.of hg10
  go_loopw [9, 10, 11] (fun s9 s10 i wr => ∃ (k : Nat) (hv : List IdZ) (cl : List ChZ) (A9 : Option Addr) (c9 : Nat) (A10 : Option Addr) (c10 M : Nat), k ≤ ps.length ∧ i = .int .i64 k ∧ s9 = .slice A9 hv.length c9 ∧ s10 = .slice A10 cl.length c10 ∧ Hid (∀ x ∈ hv, WfI x) ∧ hv.length ≤ rl.length + k ∧ Hid (OfP ps cl) ∧ cl.length ≤ k ∧
    wr.ownsRow w9.heap.size 51 2 (.slice A9 hv.length c9) hv.length (idsC hv) ∧ wr.ownsRow w9.heap.size 53 3 (.slice A10 cl.length c10) cl.length (chsC cl) ∧ M ≤ 1000 + k ∧ Tp wr w.heap.size w.heap.size M ∧ Ch (At w.heap.size) w9 wr) (fun _ _ i _ => ps.length - (intOf i).toNat)
  case atStart => exact ⟨0, rl, [], A9, c9, none, 0, _, Nat.zero_le _, rfl, rfl, rfl, Lib.hid hrw, by omega, Lib.hid (fun c hc => by simp at hc), by simp, hown9, World.ownsRow_nil _ _ _ _, by omega, hT10, hch10⟩
  case round =>
    clear hown9 hg9 hch10 hT10 hg10
    obtain ⟨k, hv, cl, A9, c9, A10, c10, M, hk, rfl, rfl, rfl, HWf, hvl, HOf, hcl, hown9, hown10, hMM, hT, hch⟩ := hrel
    by_cases hlt : k < ps.length
    · have HQk := Lib.hid (fun W h => HQ.out k hlt W h)
      have HOf2 : Hid (OfP ps (cl ++ [⟨idOf ps[k].zs, ⟨ps[k].A, ps[k].cap, ps[k].zs⟩⟩])) := Lib.hid (HOf.out.snoc hlt)
      have HW2 : Hid (∀ x ∈ hv ++ [(sumZ ps[k].zs, (ps[k].zs.length : Int))], WfI x) := Lib.hid (fun x hx => by
        rcases List.mem_append.1 hx with h | h
        · exact HWf.out x h
        · rw [List.mem_singleton] at h; subst h; exact idOf_wf (by have := (HPm.out _ (List.getElem_mem hlt)).2; omega))
      have hyl := (HPm.out _ (List.getElem_mem hlt)).2
      generalize ps[k].zs = ys at *
      generalize ps[k].A = pA at *
      generalize ps[k].cap = pc at *
      go_wp2_with fail
      refine (tapeNext_any _ _ _ _ _ hT (by omega) (by omega)).mono ?_
      rintro e w2' ⟨x, rfl, hx, hT2, hch2⟩
      replace hT := hT2
      replace hown9 := own_ch hown9 hch2 (fun g hg hs => by have := own_lt hown9 g hg; have h' : g = w.heap.size := hs; omega)
      replace hown10 := own_ch hown10 hch2 (fun g hg hs => by have := own_lt hown10 g hg; have h' : g = w.heap.size := hs; omega)
      have hchk := hch.trans hch2
      clear hch hch2 hT2
      obtain ⟨ad, he, q0, q1, q2⟩ := HQk.out w2' hchk
      obtain rfl := he
      have hwk := hchk.size
      have hx' : x = 0 ∨ x = 1 := by omega
      rcases hx' with rfl | rfl
      · go_upto_region 11 with (at_builtin; refine wpList_append_row rfl (.tmp 39) (.tmp 45) rfl w9.heap.size elem_id (by rfl) (hown9.alloc _) _ (by rfl) (by rfl) (Blk.row (Blk.new w2' 51 #[.int .u64 (sumZ ys), .int .i64 ys.length])) (by simp [Value.oneCell']) (by unfold maxLen; omega) (by omega) (by simp; omega) ?_; intro A8 c8 w8 hown8 hg8 _)
        have hga := grew_alloc w2' (.cells #[.int .u64 (sumZ ys), .int .i64 ys.length] 51)
        replace hchk := (hchk.next hga).nextNew (Ch.of_own hg8) (fun i hi => .inl (own_lt hown9 i hi))
        replace hown10 := own_ch (own_below hown10 hga) (Ch.of_own hg8) (fun i hi => own_own_ne (own_below hown10 hga) (hown9.alloc _) (by decide) i hi)
        replace hT := tape_own (hT.of hga) (hown9.alloc (.cells #[.int .u64 (sumZ ys), .int .i64 ys.length] 51)) hg8 (by decide) hwt
        have hown9' : w8.ownsRow w9.heap.size 51 2 (.slice A8 (hv.length + 1) c8) (hv.length + 1) (idsC (hv ++ [(sumZ ys, (ys.length : Int))])) := by rw [idsC_append]; exact hown8
        clear hown9 hown8 hg8 hga q0 q1 q2 hx
        have hown9 := hown9'
        clear hown9'
        obtain ⟨ad', he', q0, q1, q2⟩ := HQk.out w8 hchk
        obtain rfl := Option.some.inj he'
        have hwk := hchk.size
        by_cases hin : ((sumZ ys, (ys.length : Int)) : IdZ) ∈ hv ++ [(sumZ ys, (ys.length : Int))]
        · have HH := refHas25_any A8 c8 w8.heap.size (hv ++ [(sumZ ys, (ys.length : Int))]) (sumZ ys, (ys.length : Int)) w8 (own_row hown9) (Nat.le_refl _) (by first | omega | (simp only [List.length_append, List.length_singleton]; omega))
          rw [decide_eq_true hin] at HH
          rw [List.length_append, List.length_singleton] at HH
          have HH := Lib.hid HH
          go_wp2_with fail
          refine HH.out.mono ?_
          clear HH hin
          rintro e wh ⟨rfl, hg⟩
          replace hchk := hchk.next hg
          obtain ⟨ad', he', q0, q1, q2⟩ := HQk.out wh hchk
          obtain rfl := Option.some.inj he'
          replace hwk := hchk.size
          replace hown9 := own_below hown9 hg
          replace hown10 := own_below hown10 hg
          replace hT := hT.of hg
          clear hg
          go_wp2_with (at_builtin; refine wpList_append_row rfl (.tmp 54) (.tmp 59) rfl w9.heap.size elem_chunk (by rfl) (hown10.alloc _) _ (by rfl) (by rfl) (Blk.row (Blk.new wh 53 #[.int .u64 (sumZ ys), .int .i64 ys.length, .slice pA ys.length pc])) (by simp [Value.oneCell']) (by unfold maxLen; omega) (by omega) (by simp; omega) ?_; intro A12 c12 w12 hown12 hg12 _; have hga := grew_alloc wh (.cells #[.int .u64 (sumZ ys), .int .i64 ys.length, .slice pA ys.length pc] 53); have hch12 := (hchk.next hga).nextNew (Ch.of_own hg12) (fun i hi => .inl (own_lt hown10 i hi)); have hown13 := own_ch (own_below hown9 hga) (Ch.of_own hg12) (fun i hi => own_own_ne (own_below hown9 hga) (hown10.alloc _) (by decide) i hi); have hT12 := tape_own (hT.of hga) (hown10.alloc (.cells #[.int .u64 (sumZ ys), .int .i64 ys.length, .slice pA ys.length pc] 53)) hg12 (by decide) hwt)
          go_roundw
          case rel => exact ⟨k + 1, (hv ++ [(sumZ ys, (ys.length : Int))]), cl ++ [⟨idOf ys, ⟨pA, pc, ys⟩⟩], A8, c8, A12, c12, M + 1, by omega, by go_num, (by rw [List.length_append]; rfl), (by rw [List.length_append]; rfl), HW2, by rw [List.length_append, List.length_singleton]; omega, HOf2, by rw [List.length_append, List.length_singleton]; omega, by rw [List.length_append]; exact hown13, by rw [List.length_append, chsC_append]; exact hown12, by omega, hT12, hch12⟩
          case measure => simp [intOf]; omega
        · have HH := refHas25_any A8 c8 w8.heap.size (hv ++ [(sumZ ys, (ys.length : Int))]) (sumZ ys, (ys.length : Int)) w8 (own_row hown9) (Nat.le_refl _) (by first | omega | (simp only [List.length_append, List.length_singleton]; omega))
          rw [decide_eq_false hin] at HH
          rw [List.length_append, List.length_singleton] at HH
          have HH := Lib.hid HH
          go_wp2_with fail
          refine HH.out.mono ?_
          clear HH hin
          rintro e wh ⟨rfl, hg⟩
          replace hchk := hchk.next hg
          replace hown9 := own_below hown9 hg
          replace hown10 := own_below hown10 hg
          replace hT := hT.of hg
          clear hg
          go_wp2_with fail
          go_roundw
          case rel => exact ⟨k + 1, (hv ++ [(sumZ ys, (ys.length : Int))]), cl, A8, c8, A10, c10, M + 1, by omega, by go_num, (by rw [List.length_append]; rfl), rfl, HW2, by rw [List.length_append, List.length_singleton]; omega, HOf, by omega, by rw [List.length_append]; exact hown9, hown10, by omega, hT, hchk⟩
          case measure => simp [intOf]; omega
      · clear q0 q1 q2 hx
        go_upto_region 11 with (fail)
        obtain ⟨ad', he', q0, q1, q2⟩ := HQk.out w2' hchk
        obtain rfl := Option.some.inj he'
        have hwk := hchk.size
        by_cases hin : ((sumZ ys, (ys.length : Int)) : IdZ) ∈ hv
        · have HH := refHas25_any A9 c9 w2'.heap.size (hv) (sumZ ys, (ys.length : Int)) w2' (own_row hown9) (Nat.le_refl _) (by first | omega | (simp only [List.length_append, List.length_singleton]; omega))
          rw [decide_eq_true hin] at HH
          have HH := Lib.hid HH
          go_wp2_with fail
          refine HH.out.mono ?_
          clear HH hin
          rintro e wh ⟨rfl, hg⟩
          replace hchk := hchk.next hg
          obtain ⟨ad', he', q0, q1, q2⟩ := HQk.out wh hchk
          obtain rfl := Option.some.inj he'
          replace hwk := hchk.size
          replace hown9 := own_below hown9 hg
          replace hown10 := own_below hown10 hg
          replace hT := hT.of hg
          clear hg
          go_wp2_with (at_builtin; refine wpList_append_row rfl (.tmp 54) (.tmp 59) rfl w9.heap.size elem_chunk (by rfl) (hown10.alloc _) _ (by rfl) (by rfl) (Blk.row (Blk.new wh 53 #[.int .u64 (sumZ ys), .int .i64 ys.length, .slice pA ys.length pc])) (by simp [Value.oneCell']) (by unfold maxLen; omega) (by omega) (by simp; omega) ?_; intro A12 c12 w12 hown12 hg12 _; have hga := grew_alloc wh (.cells #[.int .u64 (sumZ ys), .int .i64 ys.length, .slice pA ys.length pc] 53); have hch12 := (hchk.next hga).nextNew (Ch.of_own hg12) (fun i hi => .inl (own_lt hown10 i hi)); have hown13 := own_ch (own_below hown9 hga) (Ch.of_own hg12) (fun i hi => own_own_ne (own_below hown9 hga) (hown10.alloc _) (by decide) i hi); have hT12 := tape_own (hT.of hga) (hown10.alloc (.cells #[.int .u64 (sumZ ys), .int .i64 ys.length, .slice pA ys.length pc] 53)) hg12 (by decide) hwt)
          go_roundw
          case rel => exact ⟨k + 1, hv, cl ++ [⟨idOf ys, ⟨pA, pc, ys⟩⟩], A9, c9, A12, c12, M + 1, by omega, by go_num, (by rfl), (by rw [List.length_append]; rfl), HWf, by omega, HOf2, by rw [List.length_append, List.length_singleton]; omega, by exact hown13, by rw [List.length_append, chsC_append]; exact hown12, by omega, hT12, hch12⟩
          case measure => simp [intOf]; omega
        · have HH := refHas25_any A9 c9 w2'.heap.size (hv) (sumZ ys, (ys.length : Int)) w2' (own_row hown9) (Nat.le_refl _) (by first | omega | (simp only [List.length_append, List.length_singleton]; omega))
          rw [decide_eq_false hin] at HH
          have HH := Lib.hid HH
          go_wp2_with fail
          refine HH.out.mono ?_
          clear HH hin
          rintro e wh ⟨rfl, hg⟩
          replace hchk := hchk.next hg
          replace hown9 := own_below hown9 hg
          replace hown10 := own_below hown10 hg
          replace hT := hT.of hg
          clear hg
          go_wp2_with fail
          go_roundw
          case rel => exact ⟨k + 1, hv, cl, A9, c9, A10, c10, M + 1, by omega, by go_num, (by rfl), rfl, HWf, by omega, HOf, by omega, by exact hown9, hown10, by omega, hT, hchk⟩
          case measure => simp [intOf]; omega
    · obtain rfl : k = ps.length := by omega
      obtain ⟨w15, h15⟩ : ∃ w15, w15 = wr := ⟨_, rfl⟩
      subst h15
      have hM' := hM.ch hch hgm
      have hown4' := own_ch hown4 hch (fun g hg hs => by have := own_lt hown4 g hg; have h' : g = w.heap.size := hs; omega)
      have m0 := (hM'.cell 0).trans (show _ = some (.int .i64 (totP ps : Nat)) from rfl)
      have m1 := (hM'.cell 1).trans (show _ = some (.slice A2 ps.length c2) from rfl)
      have HMs := missing25_any (totP ps : Nat) A2 c2 w15.heap.size (idsOf ps) A9 c9 hv w15 (own_row hown4') (own_row hown9) HWI.out HWf.out (Nat.le_refl _) (by rw [idsOf_length]; omega) (by omega)
      rw [HCk.out, idsOf_length] at HMs
      have HMs := Lib.hid HMs
      have HRs := Lib.hid (fun W (h : Grew w15 W) => refMissing25_any (totP ps : Nat) A2 c2 w15.heap.size (idsOf ps) A9 c9 hv W ((own_row hown4').up h (Nat.le_refl _)) ((own_row hown9).up h (Nat.le_refl _)) h.size (by rw [idsOf_length]; omega) (by omega))
      rw [HCk.out, idsOf_length] at HRs
      have hxl : (misL (totP ps : Nat) hv (idsOf ps)).length ≤ 7 := by
        unfold misL
        rw [if_pos HCk.out]
        have := missL_len hv (idsOf ps) (idsOf ps).length (Nat.le_refl _)
        rw [List.take_length, idsOf_length] at this
        omega
      have hwb := hch.size
      clear hown9 hM' hown4' hT hMM hvl HWf
      generalize misL (totP ps : Nat) hv (idsOf ps) = xs at *
      go_wp2_with fail
      refine HMs.out.mono ?_
      clear HMs
      rintro e w11 ⟨A12, c12, rfl, hown12, hb⟩
      replace m0 := cell_up hb m0
      replace m1 := cell_up hb m1
      replace hch := hch.next hb
      replace hown10 := own_below hown10 hb
      go_wp2_with fail
      refine (HRs.out _ hb).mono ?_
      clear HRs hb
      rintro e w12 ⟨A14, c14, rfl, hown14, hb⟩
      replace hch := hch.next hb
      replace hown10 := own_below hown10 hb
      replace hown12 := own_below hown12 hb
      clear hb m0 m1
      go_wp2_with fail
      refine (known25_any _).mono ?_
      rintro e w13 ⟨rfl, hb⟩
      replace hch := hch.next hb
      replace hown10 := own_below hown10 hb
      replace hown12 := own_below hown12 hb
      replace hown14 := own_below hown14 hb
      clear hb
      have HSm := Lib.hid (sameIDs_yes A12 A14 c12 c14 _ xs w13 (own_row hown12) (own_row hown14) (by omega))
      go_wp2_with fail
      refine HSm.out.mono ?_
      clear HSm
      rintro e w14 ⟨rfl, hb⟩
      replace hch := hch.next hb
      replace hown10 := own_below hown10 hb
      replace hown12 := own_below hown12 hb
      clear hb hown14
      go_wp2_with fail
      go_loopw [10, 16] (fun s10 i wr => ∃ (k : Nat) (cl : List ChZ) (A10 : Option Addr) (c10 : Nat), k ≤ ps.length ∧ i = .int .i64 k ∧ s10 = .slice A10 cl.length c10 ∧ Hid (OfP ps cl) ∧ cl.length ≤ 7 + k ∧
        wr.ownsRow w9.heap.size 53 3 (.slice A10 cl.length c10) cl.length (chsC cl) ∧ wr.ownsRow w15.heap.size 51 2 (.slice A12 xs.length c12) xs.length (idsC xs) ∧ Ch (At w.heap.size) w9 wr) (fun _ i _ => ps.length - (intOf i).toNat)
      case atStart => exact ⟨0, cl, A10, c10, Nat.zero_le _, rfl, rfl, HOf, by omega, hown10, hown12, hch⟩
      case round =>
        clear hown10 hown12 hch HOf hcl
        obtain ⟨k, cl, A10, c10, hk, rfl, rfl, HOf, hcl, hown10, hown12, hchk⟩ := hrel
        have hwk := hchk.size
        by_cases hlt : k < ps.length
        · have HQk := Lib.hid (fun W h => HQ.out k hlt W h)
          have HOf2 : Hid (OfP ps (cl ++ [⟨idOf ps[k].zs, ⟨ps[k].A, ps[k].cap, ps[k].zs⟩⟩])) := Lib.hid (HOf.out.snoc hlt)
          generalize ps[k].zs = ys at *
          generalize ps[k].A = pA at *
          generalize ps[k].cap = pc at *
          obtain ⟨ad, he, q0, q1, q2⟩ := HQk.out wr hchk
          obtain rfl := he
          have HH := refHas25_any A12 c12 wr.heap.size xs (sumZ ys, (ys.length : Int)) wr (own_row hown12) (Nat.le_refl _) (by omega)
          by_cases hin : ((sumZ ys, (ys.length : Int)) : IdZ) ∈ xs
          · rw [decide_eq_true hin] at HH
            have HH := Lib.hid HH
            go_wp2_with fail
            refine HH.out.mono ?_
            clear HH hin
            rintro e wh ⟨rfl, hg⟩
            replace hchk := hchk.next hg
            obtain ⟨ad', he', q0, q1, q2⟩ := HQk.out wh hchk
            obtain rfl := Option.some.inj he'
            replace hwk := hchk.size
            replace hown10 := own_below hown10 hg
            replace hown12 := own_below hown12 hg
            clear hg
            go_wp2_with (at_builtin; refine wpList_append_row rfl (.tmp 99) (.tmp 104) rfl w9.heap.size elem_chunk (by rfl) (hown10.alloc _) _ (by rfl) (by rfl) (Blk.row (Blk.new wh 53 #[.int .u64 (sumZ ys), .int .i64 ys.length, .slice pA ys.length pc])) (by simp [Value.oneCell']) (by unfold maxLen; omega) (by omega) (by simp; omega) ?_; intro A17 c17 w17 hown17 hg17 _; have hga := grew_alloc wh (.cells #[.int .u64 (sumZ ys), .int .i64 ys.length, .slice pA ys.length pc] 53); have hch17 := (hchk.next hga).nextNew (Ch.of_own hg17) (fun i hi => .inl (own_lt hown10 i hi)); have hown18 := own_ch (own_below hown12 hga) (Ch.of_own hg17) (fun i hi => own_own_ne (own_below hown12 hga) (hown10.alloc _) (by decide) i hi))
            go_roundw
            case rel => exact ⟨k + 1, cl ++ [⟨idOf ys, ⟨pA, pc, ys⟩⟩], A17, c17, by omega, by go_num, (by rw [List.length_append]; rfl), HOf2, by rw [List.length_append, List.length_singleton]; omega, by rw [List.length_append, chsC_append]; exact hown17, hown18, hch17⟩
            case measure => simp [intOf]; omega
          · rw [decide_eq_false hin] at HH
            have HH := Lib.hid HH
            go_wp2_with fail
            refine HH.out.mono ?_
            clear HH hin
            rintro e wh ⟨rfl, hg⟩
            replace hchk := hchk.next hg
            replace hown10 := own_below hown10 hg
            replace hown12 := own_below hown12 hg
            clear hg
            go_wp2_with fail
            go_roundw
            case rel => exact ⟨k + 1, cl, A10, c10, by omega, by go_num, rfl, HOf, by omega, hown10, hown12, hchk⟩
            case measure => simp [intOf]; omega
        · obtain rfl : k = ps.length := by omega
          have hM' := hM.ch hchk hgm
          have m0 := (hM'.cell 0).trans (show _ = some (.int .i64 (totP ps : Nat)) from rfl)
          have m1 := (hM'.cell 1).trans (show _ = some (.slice A2 ps.length c2) from rfl)
          have hne := own_blk_ne hown10 hM' (by decide)
          have hOfA : OfP ps (cl ++ rightC ps) := fun c hc => (List.mem_append.1 hc).elim (HOf.out c) (OfP.right ps c)
          have HOfA := Lib.hid hOfA
          have hE : rangeE (cl ++ rightC ps) (totP ps : Nat) (idsOf ps) 0 (totP ps : Nat) = 0 := range_ok hOfA.true (slE_ok (f := 0) HCk.out (Nat.zero_le _) (Nat.le_refl _)) (fun p hp h => by
            rw [idsOf_length] at h
            exact ⟨⟨idOf ps[p.1].zs, ps[p.1]⟩, List.mem_append.2 (.inr (List.mem_map.2 ⟨ps[p.1], List.getElem_mem h, rfl⟩)), by simp [idsOf]⟩)
          have HE := Lib.hid hE
          clear hOfA hE hown12 HQ hM'
          go_wp2_with fail
          refine wp_region_cls (Ch (fun i => (Value.slice A10 cl.length c10).ownBlock = some i) wr) 9 (by kernel_rfl) ?_
          have hc0 := (Ch.refl (fun i => (Value.slice A10 cl.length c10).ownBlock = some i) wr).drew
          refine AllC.head 0 3 (fuel := 7) (by first | exact fun h k => Grew.trans h k | exact fun h k => cls_grew h k) (hc0) (by rfl) (by kernel_rfl) ?_
          simp only [List.take_succ_cons, List.take_zero, List.drop_succ_cons, List.drop_zero]
          repeat (first
            | (refine HeadC.val (by rfl) ?_
               apply Exists.intro
               refine ⟨fun w' hw' => ?_, ?_⟩
               · (have hf_0 := hw'.cell m0 hne; have hf_1 := hw'.cell m1 hne; (go_simp) <;> (try go_ints) <;> with_reducible rfl)
               try simp only [Act.put, List.setIfInBounds_toArray, List.set_cons_zero, List.set_cons_succ])
            | (refine HeadC.shut (by rfl) ?_
               try simp only [Act.put, List.setIfInBounds_toArray, List.set_cons_zero, List.set_cons_succ]))
          refine HeadC.nil ?_
          refine AllC.one 3 (by kernel_rfl) rfl ?_
          intro wg hg K hK
          have hg0 := (grew_drew wr).trans hg
          have hown11 := own_below hown10 hg0
          have hrR := own_row (own_ch hownR (hchk.next hg0) (fun g hg hs => by have := own_lt hownR g hg; have h' : g = w.heap.size := hs; omega))
          refine step_append_row rfl (.tmp 108) (.tmp 109) rfl w9.heap.size elem_chunk (by rfl) hown11 _ (by rfl) (by rw [chsC_len, rightC_length]) hrR (ones_chs _) (by unfold maxLen; omega) (by omega) (by have := hg0.size; omega) ?_
          intro A16 c16 w16 hown16 hg16 hwh
          have hc16 : Ch (fun i => (Value.slice A10 cl.length c10).ownBlock = some i) wr w16 := (Ch.of_below hg0).trans (Ch.of_own hg16)
          refine hK.out _ _ hc16 ?_
          clear hK K hg hg0 hrR hwh
          have hch16 : Ch (At w.heap.size) w9 w16 := hchk.nextNew hc16 (fun i hi => .inl (own_lt hown10 i hi))
          rw [← chsC_append] at hown16
          clear hown11 hg16 hc0
          try simp only [Act.put, List.setIfInBounds_toArray, List.set_cons_zero, List.set_cons_succ]
          refine AllC.one 4 (by kernel_rfl) rfl ?_
          intro wg hg K hK
          go_simp
          have hcg := hch16.next hg
          have hTx := hTx4.ch hcg (tape_noBytes' hT4)
          have HA := assemble25_any (totP ps : Nat) A2 c2 wg.heap.size (idsOf ps) A16 c16 (cl ++ rightC ps) wg (own_row (own_ch hown4 hcg (fun g hg hs => by have := own_lt hown4 g hg; have h' : g = w.heap.size := hs; omega))) HWI.out (own_row (own_below hown16 hg)) (of_lie HOfA.out hTx.lie) (of_okC HOfA.out HPm.out HCaps.out) (Nat.le_refl _) (by rw [idsOf_length]; omega) (by rw [List.length_append, rightC_length]; omega)
          unfold RangeRes at HA
          rw [HE.out, idsOf_length, List.length_append, rightC_length] at HA
          refine HA.mono ?_
          clear HA hTx
          rintro e wz ⟨A17, c17, rfl, hown17, hb⟩
          have hcz := (hc16.next hg).next hb
          refine hK.out _ _ hcz ?_
          clear hK K hg hb hcg
          try simp only [Act.put, List.setIfInBounds_toArray, List.set_cons_zero, List.set_cons_succ]
          refine AllC.head 5 4 (fuel := 1) (by first | exact fun h k => Grew.trans h k | exact fun h k => cls_grew h k) (hcz) (by rfl) (by kernel_rfl) ?_
          simp only [List.take_succ_cons, List.take_zero, List.drop_succ_cons, List.drop_zero]
          repeat (first
            | (refine HeadC.val (by rfl) ?_
               apply Exists.intro
               refine ⟨fun w' hw' => ?_, ?_⟩
               · ((go_simp) <;> (try go_ints) <;> with_reducible rfl)
               try simp only [Act.put, List.setIfInBounds_toArray, List.set_cons_zero, List.set_cons_succ])
            | (refine HeadC.shut (by rfl) ?_
               try simp only [Act.put, List.setIfInBounds_toArray, List.set_cons_zero, List.set_cons_succ]))
          refine HeadC.nil ?_
          refine AllC.tail 9 (by rfl) (by kernel_rfl) ?_
          intro wt hwt
          simp only [List.drop_succ_cons, List.drop_zero]
          have hfin : Grew w wt := Below.trans (B := w.heap.size) hb4 ((hchk.nextNew (hcz.next hwt) (fun i hi => .inl (own_lt hown10 i hi))).below hwt1 (fun i hi => by rw [hi]; exact Nat.le_refl _))
          go_wp2_with fail
          go_ret
          exact ⟨ret_bool rfl, hfin⟩

end Go.Proofs.Ytnjhipnfhapngaa
