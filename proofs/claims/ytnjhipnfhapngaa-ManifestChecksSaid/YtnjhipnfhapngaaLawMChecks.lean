/-
  stockyardlaw25.ManifestChecks returns true.
-/
import Derived.Test.YtnjhipnfhapngaaFaulty25
import Derived.Test.YtnjhipnfhapngaaMiss25
import Derived.Test.YtnjhipnfhapngaaWhole25
namespace Go.Proofs.Ytnjhipnfhapngaa
set_option linter.unusedVariables false
set_option linter.unusedSimpArgs false
set_option linter.unnecessarySimpa false
open Go.RowKit
attribute [local go_sem ↓] Go.wp_at_zero Go.wp_at_succ

set_option maxRecDepth 4000 in
set_option maxHeartbeats 4000000 in
theorem lawMChecks_any (n : Int) (R : Option Addr) (rc : Nat) (rl : List IdZ) (A : Option Addr) (cap : Nat) (ls : List Int) (w : World) (hraw : Row w w.heap.size R (idsC rl)) (hrw : ∀ x ∈ rl, WfI x) (hrm : rl.length ≤ 9223372036854775807)
    (hr : Row w w.heap.size A (ls.map (.int .i64))) (hz : ∀ z ∈ ls, -9223372036854775808 ≤ z ∧ z ≤ 9223372036854775807) (hm : ls.length ≤ 9223372036854775807) :
    Calls Try.prog 10 #[.agg #[.int .i64 n, .slice R rl.length rc], .slice A ls.length cap] w fun e w' => e = .returned (.bool true) ∧ Below w.heap.size w w' := by
  have g00 := grew_alloc w (.cells #[.int .i64 n, .slice R rl.length rc] 31)
  have hM0 := Blk.new w 31 #[.int .i64 n, .slice R rl.length rc]
  have hT := Tp.new (cap := cap) (hr.below g00 (Nat.le_refl _)) g00.size hz hm
  have z0 : (w.alloc (.cells #[.int .i64 n, .slice R rl.length rc] 31)).heap.size = w.heap.size + 1 := by simp
  rw [z0] at hT
  have g01 := grew_alloc (w.alloc (.cells #[.int .i64 n, .slice R rl.length rc] 31)) (.cells #[.slice A ls.length cap, .int .i64 0] 26)
  have g1 := Grew.trans g00 g01
  have hM1 := hM0.of g01
  clear hz hr g00 hM0 g01 z0
  go_enter Try.func10, Try.ntmps10
  go_upto_region 2 with (fail)
  generalize (w.alloc (.cells #[.int .i64 n, .slice R rl.length rc] 31)).alloc (.cells #[.slice A ls.length cap, .int .i64 0] 26) = w1 at *
  have hgg : ¬ At (w.heap.size + 1) w.heap.size := by show ¬ _ = _; omega
  have m0 := (hM1.cell 0).trans (show _ = some (.int .i64 n) from rfl)
  have m1 := (hM1.cell 1).trans (show _ = some (.slice R rl.length rc) from rfl)
  have hw1 := hT.lt
  have Hrw := Lib.hid hrw
  clear hrw
  refine wp_region_cls (Ch (At (w.heap.size + 1)) w1) 4 (by kernel_rfl) ?_
  have hc0 := (Ch.refl (At (w.heap.size + 1)) w1).drew
  refine AllC.head 0 2 (fuel := 3) (by first | exact fun h k => Grew.trans h k | exact fun h k => cls_grew h k) (hc0) (by rfl) (by kernel_rfl) ?_
  simp only [List.take_succ_cons, List.take_zero, List.drop_succ_cons, List.drop_zero]
  repeat (first
    | (refine HeadC.val (by rfl) ?_
       apply Exists.intro
       refine ⟨fun w' hw' => ?_, ?_⟩
       · (have hf_0 := hw'.cell m0 hgg; have hf_1 := hw'.cell m1 hgg; (go_simp) <;> (try go_ints) <;> with_reducible rfl)
       try simp only [Act.put, List.setIfInBounds_toArray, List.set_cons_zero, List.set_cons_succ])
    | (refine HeadC.shut (by rfl) ?_
       try simp only [Act.put, List.setIfInBounds_toArray, List.set_cons_zero, List.set_cons_succ]))
  refine HeadC.nil ?_
  refine AllC.one 2 (by kernel_rfl) rfl ?_
  intro wg hg1 K hK
  go_simp
  have hg' : Grew w1 wg := (grew_drew _).trans hg1
  refine (faulty25_any _ _ _ _ (hT.of hg') (by omega) (by have := hg'.size; omega)).mono ?_
  rintro e w2 ⟨fn, fA, fc, fl, rfl, hf6, hfw, hf1, hf2, hfo, hT2, hch2⟩
  have Hfw := Lib.hid hfw
  have hc2 : Ch (At (w.heap.size + 1)) w1 w2 := (Ch.of_below hg').trans hch2
  refine hK.out _ _ hc2 ?_
  clear hK K hch2 hg' hg1 hc0 hT hT2 hfw
  try simp only [Act.put, List.setIfInBounds_toArray, List.set_cons_zero, List.set_cons_succ]
  refine AllC.one 3 (by kernel_rfl) rfl ?_
  intro wg hg K hK
  go_simp
  have hl := (Blk.new wg 31 #[.int .i64 n, .slice R rl.length rc, .int .i64 fn, .slice fA fl.length fc]).row
  have hga := hg.trans (grew_alloc wg (.cells #[.int .i64 n, .slice R rl.length rc, .int .i64 fn, .slice fA fl.length fc] 31))
  have hc3 := hc2.next hga
  have hfr := (own_row hfo).up hga (Nat.le_refl _)
  have hfs := hga.size
  refine hK.out _ _ hc3 ?_
  clear hK K hg hc2 hfo
  try simp only [Act.put, List.setIfInBounds_toArray, List.set_cons_zero, List.set_cons_succ]
  generalize wg.alloc (.cells #[.int .i64 n, .slice R rl.length rc, .int .i64 fn, .slice fA fl.length fc] 31) = w7 at *
  generalize wg.heap.size = gl at *
  clear wg hga
  refine AllC.tail 4 (by rfl) (by kernel_rfl) ?_
  intro wt hwt
  simp only [List.drop_succ_cons, List.drop_zero]
  have hc8 := hc3.next hwt
  have hb8 : Below w.heap.size w wt := Below.trans (B := w.heap.size) g1 (hc8.below (Below.size g1) (fun i hi => by rw [hi]; omega))
  have hl8 := (hl.up hwt (Nat.le_refl _)).more hwt.size
  have hfr8 := (hfr.up hwt hfs).more (Nat.le_trans hfs hwt.size)
  have hraw8 := (hraw.below hb8 (Nat.le_refl _)).more (Below.size hb8)
  clear hc3 hc8 hwt hl hfr hfs hraw m0 m1 hM1 g1
  have HC : Hid (∀ k : Nat, k < 2 → ∃ (nk : Int) (Ak : Option Addr) (ck : Nat) (ids : List IdZ), (∀ x ∈ ids, WfI x) ∧ ids.length ≤ 9223372036854775807 ∧ ∀ W, Grew wt W → W.cell? ⟨gl, k * 2, none⟩ = some (.int .i64 nk) ∧ W.cell? ⟨gl, k * 2 + 1, none⟩ = some (.slice Ak ids.length ck) ∧ Row W wt.heap.size Ak (idsC ids)) := Lib.hid (fun k hk => by
    have hz : k = 0 ∨ k = 1 := by omega
    rcases hz with rfl | rfl
    · refine ⟨n, R, rc, rl, Hrw.out, hrm, fun W h => ?_⟩
      obtain ⟨ad, e, _, hc⟩ := (hl8.up h (Nat.le_refl _)).at_ (k := 0) (by simp)
      obtain ⟨ad', e', _, hc'⟩ := (hl8.up h (Nat.le_refl _)).at_ (k := 1) (by simp)
      injection e with e; injection e' with e'
      subst e e'
      exact ⟨hc, hc', hraw8.up h (Nat.le_refl _)⟩
    · refine ⟨fn, fA, fc, fl, Hfw.out, by omega, fun W h => ?_⟩
      obtain ⟨ad, e, _, hc⟩ := (hl8.up h (Nat.le_refl _)).at_ (k := 2) (by simp)
      obtain ⟨ad', e', _, hc'⟩ := (hl8.up h (Nat.le_refl _)).at_ (k := 3) (by simp)
      injection e with e; injection e' with e'
      subst e e'
      exact ⟨hc, hc', hfr8.up h (Nat.le_refl _)⟩)
  clear hl8 hfr8 hraw8 Hrw Hfw hf1 hf2 hf6
  go_wp2_with fail
  go_loopw [7] (fun i wr => ∃ k : Nat, k ≤ 2 ∧ i = .int .i64 k ∧ Grew wt wr) (fun i _ => 2 - (intOf i).toNat)
  case atStart => exact ⟨0, by omega, rfl, Grew.refl _⟩
  case round =>
    obtain ⟨k, hk, rfl, hgr⟩ := hrel
    by_cases hlt : k < 2
    · have hk1 : (k : Int) < 2 := by omega
      obtain ⟨nk, Ak, ck, ids, hWk, hlk, hab⟩ := HC.out k hlt
      obtain ⟨ca, cb, hrow⟩ := hab wr hgr
      have HWk := Lib.hid hWk
      have hBr := hgr.size
      have hBk : Hid (wt.heap.size = wt.heap.size) := Lib.hid rfl
      clear hab hWk
      obtain ⟨Bk, hBke⟩ : ∃ Bk, Bk = wt.heap.size := ⟨_, rfl⟩
      rw [← hBke] at hrow hBr
      clear hBke hBk
      by_cases he : chkM nk ids = 0
      · have HLoc := Lib.hid (fun v (hv : LocRes nk ids (-1) v) => (show v = .tuple #[.int .i64 0, .int .i64 0, .int .i64 253] by
          have hE : locE nk ids (-1) = 253 := by unfold locE; rw [if_pos he, if_pos (by omega)]
          unfold LocRes at hv
          rw [hE, if_neg (by decide)] at hv
          exact hv))
        have gA := grew_alloc wr (.cells #[.int .i64 nk, .slice Ak ids.length ck] 31)
        have hB0 := Blk.new wr 31 #[.int .i64 nk, .slice Ak ids.length ck]
        have e0 := (hB0.cell 0).trans (show _ = some (.int .i64 nk) from rfl)
        have e1 := (hB0.cell 1).trans (show _ = some (.slice Ak ids.length ck) from rfl)
        replace hrow := hrow.up gA hBr
        replace hBr := Nat.le_trans hBr gA.size
        have hgx := Grew.trans hgr gA
        clear hB0
        go_upto_region 7 with (fail)
        generalize wr.alloc (.cells #[.int .i64 nk, .slice Ak ids.length ck] 31) = wz at *
        generalize wr.heap.size = gz at *
        clear gA
        go_wp2_with fail
        have H1 := Lib.hid (fun W (hr : Row W Bk Ak (idsC ids)) (hB : Bk ≤ W.heap.size) => refCheck25_any nk Ak ck Bk ids W hr hB hlk)
        have H2 := Lib.hid (fun W (hr : Row W Bk Ak (idsC ids)) (hB : Bk ≤ W.heap.size) => whole25_any nk Ak ck Bk ids W hr HWk.out hB hlk)
        have H3 := Lib.hid (fun W (hr : Row W Bk Ak (idsC ids)) (hB : Bk ≤ W.heap.size) => missing25_any nk Ak ck Bk ids none 0 [] W hr Row.nil HWk.out (fun x hx => by simp at hx) hB hlk (by simp))
        have H4 := Lib.hid (fun W (hr : Row W Bk Ak (idsC ids)) (hB : Bk ≤ W.heap.size) => encode25_any nk Ak ck Bk ids W hr HWk.out hB hlk)
        have H5 := Lib.hid (fun W (hr : Row W Bk Ak (idsC ids)) (hB : Bk ≤ W.heap.size) => check25_any nk Ak ck Bk ids W hr hB hlk)
        have H6 := Lib.hid (fun W (hr : Row W Bk Ak (idsC ids)) (hB : Bk ≤ W.heap.size) => locate25_any nk Ak ck Bk ids (-1) W hr hB hlk)
        simp only [List.length_nil] at H3
        unfold EncRes at H4
        rw [he] at H1 H2 H3 H4 H5
        refine (H1.out _ hrow hBr).mono ?_
        rintro e wn ⟨rfl, hb⟩
        replace hgx := Grew.trans hgx hb
        replace e0 := cell_up hb e0
        replace e1 := cell_up hb e1
        replace hrow := hrow.up hb hBr
        replace hBr := Nat.le_trans hBr hb.size
        clear hb
        go_wp2_with fail
        refine (H2.out _ hrow hBr).mono ?_
        rintro e wn ⟨rfl, hb⟩
        have hgal := grew_alloc wn (.cells #[.int .u64 (whE nk ids).1, .int .i64 (whE nk ids).2] 51)
        replace hb := Grew.trans hb hgal
        clear hgal
        replace hgx := Grew.trans hgx hb
        replace e0 := cell_up hb e0
        replace e1 := cell_up hb e1
        replace hrow := hrow.up hb hBr
        replace hBr := Nat.le_trans hBr hb.size
        clear hb
        go_upto_region 9 with (fail)
        generalize wn.alloc (.cells #[.int .u64 (whE nk ids).1, .int .i64 (whE nk ids).2] 51) = wz2 at *
        go_wp2_with fail
        refine (H3.out _ hrow hBr).mono ?_
        rintro e wn ⟨A', c', rfl, _, hb⟩
        replace hgx := Grew.trans hgx hb
        replace e0 := cell_up hb e0
        replace e1 := cell_up hb e1
        replace hrow := hrow.up hb hBr
        replace hBr := Nat.le_trans hBr hb.size
        clear hb
        go_wp2_with fail
        refine (H4.out _ hrow hBr).mono ?_
        rintro e wn ⟨A'', c'', rfl, _, hb⟩
        replace hgx := Grew.trans hgx hb
        replace e0 := cell_up hb e0
        replace e1 := cell_up hb e1
        replace hrow := hrow.up hb hBr
        replace hBr := Nat.le_trans hBr hb.size
        clear hb
        go_wp2_with fail
        refine (H5.out _ hrow hBr).mono ?_
        rintro e wn ⟨rfl, hb⟩
        replace hgx := Grew.trans hgx hb
        replace e0 := cell_up hb e0
        replace e1 := cell_up hb e1
        replace hrow := hrow.up hb hBr
        replace hBr := Nat.le_trans hBr hb.size
        clear hb
        go_wp2_with fail
        refine (H6.out _ hrow hBr).mono ?_
        rintro e wn ⟨v, rfl, hv, hb⟩
        obtain rfl := HLoc.out v hv
        replace hgx := Grew.trans hgx hb
        clear hb hv e0 e1
        go_wp2_with fail
        go_roundw
        case rel => exact ⟨k + 1, by omega, by go_num, hgx⟩
        case measure => simp [intOf]; omega
      · have HLoc := Lib.hid (fun v (hv : LocRes nk ids (-1) v) => (show v = .tuple #[.int .i64 0, .int .i64 0, .int .i64 (chkM nk ids)] by
          have hE : locE nk ids (-1) = chkM nk ids := by unfold locE; rw [if_neg he]
          unfold LocRes at hv
          rw [hE, if_neg he] at hv
          exact hv))
        have hne : (chkM nk ids != 0) = true := by rw [bne_iff_ne]; exact he
        have hne2 : (chkM nk ids == 0) = false := by rw [beq_eq_false_iff_ne]; exact he
        clear he
        have gA := grew_alloc wr (.cells #[.int .i64 nk, .slice Ak ids.length ck] 31)
        have hB0 := Blk.new wr 31 #[.int .i64 nk, .slice Ak ids.length ck]
        have e0 := (hB0.cell 0).trans (show _ = some (.int .i64 nk) from rfl)
        have e1 := (hB0.cell 1).trans (show _ = some (.slice Ak ids.length ck) from rfl)
        replace hrow := hrow.up gA hBr
        replace hBr := Nat.le_trans hBr gA.size
        have hgx := Grew.trans hgr gA
        clear hB0
        go_upto_region 7 with (fail)
        generalize wr.alloc (.cells #[.int .i64 nk, .slice Ak ids.length ck] 31) = wz at *
        generalize wr.heap.size = gz at *
        clear gA
        go_wp2_with fail
        have H1 := Lib.hid (fun W (hr : Row W Bk Ak (idsC ids)) (hB : Bk ≤ W.heap.size) => refCheck25_any nk Ak ck Bk ids W hr hB hlk)
        have H2 := Lib.hid (fun W (hr : Row W Bk Ak (idsC ids)) (hB : Bk ≤ W.heap.size) => whole25_any nk Ak ck Bk ids W hr HWk.out hB hlk)
        have H3 := Lib.hid (fun W (hr : Row W Bk Ak (idsC ids)) (hB : Bk ≤ W.heap.size) => missing25_any nk Ak ck Bk ids none 0 [] W hr Row.nil HWk.out (fun x hx => by simp at hx) hB hlk (by simp))
        have H4 := Lib.hid (fun W (hr : Row W Bk Ak (idsC ids)) (hB : Bk ≤ W.heap.size) => encode25_any nk Ak ck Bk ids W hr HWk.out hB hlk)
        have H5 := Lib.hid (fun W (hr : Row W Bk Ak (idsC ids)) (hB : Bk ≤ W.heap.size) => check25_any nk Ak ck Bk ids W hr hB hlk)
        have H6 := Lib.hid (fun W (hr : Row W Bk Ak (idsC ids)) (hB : Bk ≤ W.heap.size) => locate25_any nk Ak ck Bk ids (-1) W hr hB hlk)
        simp only [List.length_nil] at H3
        unfold EncRes at H4
        generalize chkM nk ids = er at *
        refine (H1.out _ hrow hBr).mono ?_
        rintro e wn ⟨rfl, hb⟩
        replace hgx := Grew.trans hgx hb
        replace e0 := cell_up hb e0
        replace e1 := cell_up hb e1
        replace hrow := hrow.up hb hBr
        replace hBr := Nat.le_trans hBr hb.size
        clear hb
        go_wp2_with fail
        refine (H2.out _ hrow hBr).mono ?_
        rintro e wn ⟨rfl, hb⟩
        have hgal := grew_alloc wn (.cells #[.int .u64 (whE nk ids).1, .int .i64 (whE nk ids).2] 51)
        replace hb := Grew.trans hb hgal
        clear hgal
        replace hgx := Grew.trans hgx hb
        replace e0 := cell_up hb e0
        replace e1 := cell_up hb e1
        replace hrow := hrow.up hb hBr
        replace hBr := Nat.le_trans hBr hb.size
        clear hb
        go_upto_region 9 with (fail)
        generalize wn.alloc (.cells #[.int .u64 (whE nk ids).1, .int .i64 (whE nk ids).2] 51) = wz2 at *
        go_wp2_with fail
        refine (H3.out _ hrow hBr).mono ?_
        rintro e wn ⟨A', c', rfl, _, hb⟩
        replace hgx := Grew.trans hgx hb
        replace e0 := cell_up hb e0
        replace e1 := cell_up hb e1
        replace hrow := hrow.up hb hBr
        replace hBr := Nat.le_trans hBr hb.size
        clear hb
        go_wp2_with fail
        refine (H4.out _ hrow hBr).mono ?_
        rintro e wn ⟨A'', c'', rfl, _, hb⟩
        replace hgx := Grew.trans hgx hb
        replace e0 := cell_up hb e0
        replace e1 := cell_up hb e1
        replace hrow := hrow.up hb hBr
        replace hBr := Nat.le_trans hBr hb.size
        clear hb
        go_wp2_with fail
        refine (H5.out _ hrow hBr).mono ?_
        rintro e wn ⟨rfl, hb⟩
        replace hgx := Grew.trans hgx hb
        replace e0 := cell_up hb e0
        replace e1 := cell_up hb e1
        replace hrow := hrow.up hb hBr
        replace hBr := Nat.le_trans hBr hb.size
        clear hb
        go_wp2_with fail
        refine (H6.out _ hrow hBr).mono ?_
        rintro e wn ⟨v, rfl, hv, hb⟩
        obtain rfl := HLoc.out v hv
        replace hgx := Grew.trans hgx hb
        clear hb hv e0 e1
        go_wp2_with fail
        go_roundw
        case rel => exact ⟨k + 1, by omega, by go_num, hgx⟩
        case measure => simp [intOf]; omega
    · go_wp2_with fail
      refine (known25_any _).mono ?_
      rintro e wk ⟨rfl, hb⟩
      go_wp2_with fail
      go_ret
      exact ⟨rfl, Grew.trans hb8 (Grew.trans hgr hb)⟩

end Go.Proofs.Ytnjhipnfhapngaa
