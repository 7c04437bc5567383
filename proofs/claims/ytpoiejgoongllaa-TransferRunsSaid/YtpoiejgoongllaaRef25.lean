/-
  stockyardref25.find, Range, Assemble.
-/
import Derived.Test.YtpoiejgoongllaaKnown25
namespace Go.Proofs.Ytpoiejgoongllaa
set_option linter.unusedVariables false
set_option linter.unusedSimpArgs false
set_option linter.unnecessarySimpa false
open Go.RowKit
attribute [local go_sem ↓] Go.wp_at_zero Go.wp_at_succ

theorem fstC_at {l : List ChZ} {x : IdZ} {k : Nat} (h : fstC (l.take k) x = none) (hk : k < l.length) (e : l[k].id = x) : fstC l x = some l[k] := by
  unfold fstC at h ⊢
  conv => lhs; rw [← List.take_append_drop k l, List.drop_eq_getElem_cons hk]
  rw [List.find?_append, h, Option.none_or, List.find?_cons, decide_eq_true e]
theorem fstC_next {l : List ChZ} {x : IdZ} {k : Nat} (h : fstC (l.take k) x = none) (hk : k < l.length) (e : ¬ l[k].id = x) : fstC (l.take (k + 1)) x = none := by
  rw [fstC_snoc hk, h]
  simp only
  rw [if_neg (fun h => e h.symm)]
theorem find_end {l : List ChZ} {x : IdZ} {v : Value} {e : Int} (hv : v = (fndP l x).v) (he : e = fndE l x) : Ending.returned (.tuple #[v, .int .i64 e]) = Ending.returned (.tuple #[(fndP l x).v, .int .i64 (fndE l x)]) := by rw [hv, he]

set_option maxRecDepth 100000 in
set_option maxHeartbeats 2000000 in
theorem refFind25_any (L : Option Addr) (lc B : Nat) (l : List ChZ) (x : IdZ) (w : World) (hr : Row w B L (chsC l)) (hp : LieC w B l) (hB : B ≤ w.heap.size) (hok : OkC l) (hm : l.length ≤ 4611686018427387904) :
    Calls Try.prog 91 #[.slice L l.length lc, .agg #[.int .u64 x.1, .int .i64 x.2]] w fun e w' => e = .returned (.tuple #[(fndP l x).v, .int .i64 (fndE l x)]) ∧ Grew w w' := by
  obtain ⟨xs, xn⟩ := x
  have Hok := Lib.hid hok
  have g0 := grew_alloc w (.cells #[.int .u64 xs, .int .i64 xn] 53)
  have hX := Blk.new w 53 #[.int .u64 xs, .int .i64 xn]
  have hr0 := hr.below g0 hB
  have hp0 := hp.below g0 hB
  have hB0 := Nat.le_trans hB g0.size
  have x0 := (hX.cell 0).trans (show _ = some (.int .u64 xs) from rfl)
  have x1 := (hX.cell 1).trans (show _ = some (.int .i64 xn) from rfl)
  clear hok hr hp
  go_enter Try.func91, Try.ntmps91
  go_wp2_with fail
  generalize w.alloc (.cells #[.int .u64 xs, .int .i64 xn] 53) = w1 at *
  generalize w.heap.size = gc at *
  go_loopw [6] (fun i wr => ∃ k : Nat, k ≤ l.length ∧ i = .int .i64 k ∧ Hid (fstC (l.take k) (xs, xn) = none) ∧ Drawn w1 wr) (fun i _ => l.length - (intOf i).toNat)
  case atStart => exact ⟨0, Nat.zero_le _, rfl, Lib.hid (by simp [fstC]), Drawn.refl _⟩
  case round =>
    obtain ⟨k, hk, rfl, HN, hd⟩ := hrel
    by_cases hlt : k < l.length
    · obtain ⟨ad, rfl, _, d0, d1, d2⟩ := chs_at (hr0.keep (w' := wr) fun p _ => hd.cell p) hlt
      have z0 := (hd.cell ⟨gc, 0, none⟩).trans x0
      have z1 := (hd.cell ⟨gc, 1, none⟩).trans x1
      have HA := Lib.hid (fun e => fstC_at (x := (xs, xn)) HN.out hlt e)
      have HX := Lib.hid (fun e => fstC_next (x := (xs, xn)) HN.out hlt e)
      obtain ⟨_, hcb, _, hcl⟩ := Hok.out _ (List.getElem_mem hlt)
      have hrow := (hp0 _ (List.getElem_mem hlt)).keep (w' := wr) fun p _ => hd.cell p
      have hBr := Nat.le_trans hB0 (show w1.heap.size ≤ wr.heap.size from (hd.below w1.heap.size).size)
      clear HN
      generalize l[k] = c at *
      obtain ⟨⟨y1, y2⟩, ⟨pA, pc, ys⟩⟩ := c
      simp only at d0 d1 d2 hcb hcl hrow HA HX
      by_cases he : ((y1, y2) : IdZ) = (xs, xn)
      · have HF := Lib.hid (HA.out he)
        clear HA HX
        obtain ⟨rfl, rfl⟩ := Prod.mk.inj he
        clear he
        have hgw : Grew w1 wr := hd.below _
        go_wp2_with fail
        refine wp_region_g 6 (by kernel_rfl) ?_
        refine AllC.head 0 6 (fuel := 1) (by first | exact fun h k => Grew.trans h k | exact fun h k => cls_grew h k) (grew_drew _) (by rfl) (by kernel_rfl) ?_
        simp only [List.take_succ_cons, List.take_zero, List.drop_succ_cons, List.drop_zero]
        repeat (first
          | (refine HeadC.val (by rfl) ?_
             apply Exists.intro
             refine ⟨fun w' hw' => ?_, ?_⟩
             · (have hf_0 := cell_up hw' d0; have hf_1 := cell_up hw' d1; have hf_2 := cell_up hw' z0; have hf_3 := cell_up hw' z1; (go_simp) <;> (try go_ints) <;> with_reducible rfl)
             try simp only [Act.put, List.setIfInBounds_toArray, List.set_cons_zero, List.set_cons_succ])
          | (refine HeadC.shut (by rfl) ?_
             try simp only [Act.put, List.setIfInBounds_toArray, List.set_cons_zero, List.set_cons_succ]))
        refine HeadC.nil ?_
        refine AllC.tail 6 (by rfl) (by kernel_rfl) ?_
        intro wt hwt
        simp only [List.drop_succ_cons, List.drop_zero]
        obtain ⟨wa, hwa⟩ : ∃ wa, wa = wt := ⟨_, rfl⟩
        subst hwa
        have hg1 := (grew_drew wr).trans hwt
        replace d2 := cell_up hg1 d2
        replace z0 := cell_up hg1 z0
        replace z1 := cell_up hg1 z1
        replace hrow := hrow.up hg1 hBr
        replace hBr := Nat.le_trans hBr hg1.size
        replace hgw := hgw.trans hg1
        clear hwt hg1 d0 d1
        have HOf := Lib.hid (fun W (h : Grew wa W) => refOf_any pA pc B ys W (hrow.up h hBr) (Nat.le_trans hBr h.size) hcb (by omega))
        go_upto_region 5 with (fail)
        by_cases hi : idOf ys = (y1, y2)
        · have HFo := Lib.hid (fnd_ok HF.out hi)
          have e0 : sumZ ys = y1 := congrArg Prod.fst hi
          have e1 : (ys.length : Int) = y2 := congrArg Prod.snd hi
          rw [e0, e1] at HOf
          clear e0 e1 hi
          refine wp_region_g 7 (by kernel_rfl) ?_
          refine AllC.head 0 7 (fuel := 1) (by first | exact fun h k => Grew.trans h k | exact fun h k => cls_grew h k) (grew_drew _) (by rfl) (by kernel_rfl) ?_
          simp only [List.take_succ_cons, List.take_zero, List.drop_succ_cons, List.drop_zero]
          repeat (first
            | (refine HeadC.val (by rfl) ?_
               apply Exists.intro
               refine ⟨fun w' hw' => ?_, ?_⟩
               · (have hf_0 := cell_up hw' d2; have hf_1 := cell_up hw' z0; have hf_2 := cell_up hw' z1; (go_simp) <;> (try go_ints) <;> with_reducible rfl)
               try simp only [Act.put, List.setIfInBounds_toArray, List.set_cons_zero, List.set_cons_succ])
            | (refine HeadC.call (by rfl) ?_
               apply Exists.intro; apply Exists.intro
               refine ⟨fun w' hw' => ?_, ?_⟩
               · (have hf_0 := cell_up hw' d2; have hf_1 := cell_up hw' z0; have hf_2 := cell_up hw' z1; (go_simp) <;> first | (refine ⟨?_, ?_⟩ <;> with_reducible rfl) | with_reducible rfl)
               apply Exists.intro
               refine ⟨fun w' hw' => ?_, ?_⟩
               · (first | exact HOf.out _ hw')
               try simp only [Act.put, List.setIfInBounds_toArray, List.set_cons_zero, List.set_cons_succ])
            | (refine HeadC.shut (by rfl) ?_
               try simp only [Act.put, List.setIfInBounds_toArray, List.set_cons_zero, List.set_cons_succ]))
          refine HeadC.nil ?_
          refine AllC.tail 7 (by rfl) (by kernel_rfl) ?_
          intro wt hwt
          simp only [List.drop_succ_cons, List.drop_zero]
          have hg1 := (grew_drew wa).trans hwt
          replace d2 := cell_up hg1 d2
          have hg2 := hgw.trans hg1
          clear hwt hg1 z0 z1
          go_wp2_with fail
          go_ret2
          exact ⟨find_end (by rw [HFo.out.2]; rfl) HFo.out.1.symm, Grew.trans g0 hg2⟩
        · have HFo := Lib.hid (fnd_bad HF.out hi)
          rcases id_ne hi with hne | ⟨h0, hne⟩
          · clear hi
            refine wp_region_g 7 (by kernel_rfl) ?_
            refine AllC.head 0 7 (fuel := 1) (by first | exact fun h k => Grew.trans h k | exact fun h k => cls_grew h k) (grew_drew _) (by rfl) (by kernel_rfl) ?_
            simp only [List.take_succ_cons, List.take_zero, List.drop_succ_cons, List.drop_zero]
            repeat (first
              | (refine HeadC.val (by rfl) ?_
                 apply Exists.intro
                 refine ⟨fun w' hw' => ?_, ?_⟩
                 · (have hf_0 := cell_up hw' d2; have hf_1 := cell_up hw' z0; have hf_2 := cell_up hw' z1; (go_simp) <;> (try go_ints) <;> with_reducible rfl)
                 try simp only [Act.put, List.setIfInBounds_toArray, List.set_cons_zero, List.set_cons_succ])
              | (refine HeadC.call (by rfl) ?_
                 apply Exists.intro; apply Exists.intro
                 refine ⟨fun w' hw' => ?_, ?_⟩
                 · (have hf_0 := cell_up hw' d2; have hf_1 := cell_up hw' z0; have hf_2 := cell_up hw' z1; (go_simp) <;> first | (refine ⟨?_, ?_⟩ <;> with_reducible rfl) | with_reducible rfl)
                 apply Exists.intro
                 refine ⟨fun w' hw' => ?_, ?_⟩
                 · (first | exact HOf.out _ hw')
                 try simp only [Act.put, List.setIfInBounds_toArray, List.set_cons_zero, List.set_cons_succ])
              | (refine HeadC.shut (by rfl) ?_
                 try simp only [Act.put, List.setIfInBounds_toArray, List.set_cons_zero, List.set_cons_succ]))
            refine HeadC.nil ?_
            refine AllC.tail 7 (by rfl) (by kernel_rfl) ?_
            intro wt hwt
            simp only [List.drop_succ_cons, List.drop_zero]
            have hg2 := hgw.trans ((grew_drew wa).trans hwt)
            go_wp2_with fail
            go_ret2
            exact ⟨find_end (by rw [HFo.out.2]; rfl) HFo.out.1.symm, Grew.trans g0 hg2⟩
          · clear hi
            rw [h0] at HOf
            clear h0
            refine wp_region_g 7 (by kernel_rfl) ?_
            refine AllC.head 0 7 (fuel := 1) (by first | exact fun h k => Grew.trans h k | exact fun h k => cls_grew h k) (grew_drew _) (by rfl) (by kernel_rfl) ?_
            simp only [List.take_succ_cons, List.take_zero, List.drop_succ_cons, List.drop_zero]
            repeat (first
              | (refine HeadC.val (by rfl) ?_
                 apply Exists.intro
                 refine ⟨fun w' hw' => ?_, ?_⟩
                 · (have hf_0 := cell_up hw' d2; have hf_1 := cell_up hw' z0; have hf_2 := cell_up hw' z1; (go_simp) <;> (try go_ints) <;> with_reducible rfl)
                 try simp only [Act.put, List.setIfInBounds_toArray, List.set_cons_zero, List.set_cons_succ])
              | (refine HeadC.call (by rfl) ?_
                 apply Exists.intro; apply Exists.intro
                 refine ⟨fun w' hw' => ?_, ?_⟩
                 · (have hf_0 := cell_up hw' d2; have hf_1 := cell_up hw' z0; have hf_2 := cell_up hw' z1; (go_simp) <;> first | (refine ⟨?_, ?_⟩ <;> with_reducible rfl) | with_reducible rfl)
                 apply Exists.intro
                 refine ⟨fun w' hw' => ?_, ?_⟩
                 · (first | exact HOf.out _ hw')
                 try simp only [Act.put, List.setIfInBounds_toArray, List.set_cons_zero, List.set_cons_succ])
              | (refine HeadC.shut (by rfl) ?_
                 try simp only [Act.put, List.setIfInBounds_toArray, List.set_cons_zero, List.set_cons_succ]))
            refine HeadC.nil ?_
            refine AllC.tail 7 (by rfl) (by kernel_rfl) ?_
            intro wt hwt
            simp only [List.drop_succ_cons, List.drop_zero]
            have hg2 := hgw.trans ((grew_drew wa).trans hwt)
            go_wp2_with fail
            go_ret2
            exact ⟨find_end (by rw [HFo.out.2]; rfl) HFo.out.1.symm, Grew.trans g0 hg2⟩
      · have HN2 := Lib.hid (HX.out he)
        clear HA HX
        rcases id_ne he with hne | ⟨rfl, hne⟩
        · clear he
          go_wp2_with fail
          go_quiet (fail)
          go_wp2
          go_roundw
          case rel => exact ⟨k + 1, by omega, by go_num, HN2, hd.drewN _⟩
          case measure => simp [intOf]; omega
        · clear he
          go_wp2_with fail
          go_quiet (fail)
          go_wp2
          go_roundw
          case rel => exact ⟨k + 1, by omega, by go_num, HN2, hd.drewN _⟩
          case measure => simp [intOf]; omega
    · obtain rfl : k = l.length := by omega
      rw [List.take_length] at HN
      have HF := Lib.hid (fnd_none HN.out)
      go_wp2_with fail
      go_ret2
      exact ⟨find_end (by rw [HF.out.2]; rfl) HF.out.1.symm, Grew.trans g0 (hd.below _)⟩

set_option maxRecDepth 100000 in
set_option maxHeartbeats 4000000 in
theorem refRange25_any (n : Int) (A : Option Addr) (cap B : Nat) (ids : List IdZ) (f t : Int) (L : Option Addr) (lc : Nat) (l : List ChZ) (w : World) (hr : Row w B A (idsC ids)) (hl : Row w B L (chsC l)) (hp : LieC w B l) (hok : OkC l) (hB : B ≤ w.heap.size) (hm : ids.length ≤ 9223372036854775807) (hlm : l.length ≤ 4611686018427387904) :
    Calls Try.prog 86 #[.agg #[.int .i64 n, .slice A ids.length cap], .slice L l.length lc, .int .i64 f, .int .i64 t] w (RangeRes l n ids f t w) := by
  have gA := grew_alloc w (.cells #[.int .i64 n, .slice A ids.length cap] 33)
  have hC := Blk.new w 33 #[.int .i64 n, .slice A ids.length cap]
  have c0 := (hC.cell 0).trans (show _ = some (.int .i64 n) from rfl)
  have c1 := (hC.cell 1).trans (show _ = some (.slice A ids.length cap) from rfl)
  have hr1 := hr.below gA hB
  have hl1 := hl.below gA hB
  have hp1 := hp.below gA hB
  have hB1 := Nat.le_trans hB gA.size
  have HS := Lib.hid (refSlice25_any n A cap B ids f t _ hr1 hB1 hm)
  have Hok := Lib.hid hok
  clear hr hl hp hok
  go_enter Try.func86, Try.ntmps86
  go_wp2_with fail
  generalize w.alloc (.cells #[.int .i64 n, .slice A ids.length cap] 33) = w1 at *
  generalize hgc : w.heap.size = gc at *
  have HGc := Lib.hid hgc
  clear hgc
  refine HS.out.mono ?_
  rintro e w2 ⟨A2, c2, rfl, hps, hb⟩
  replace hC := hC.of hb
  replace hr1 := hr1.below hb hB1
  replace hl1 := hl1.below hb hB1
  replace hp1 := hp1.below hb hB1
  replace hB1 := Nat.le_trans hB1 hb.size
  replace gA := gA.trans hb
  clear hb HS c0 c1
  by_cases hE : slE n ids f t = 0
  · have hsl : slL n ids f t = slK f t ids ids.length := by unfold slL; rw [if_pos hE]
    have HBd := Lib.hid (fun p hp => slK_bd (f := f) (t := t) (l := ids) ids.length (Nat.le_refl _) p hp)
    have hck : chkM n ids = 0 := by
      unfold slE at hE
      split at hE
      · assumption
      · exact absurd hE (by assumption)
    have q4 := (chkM_zero hck).1
    have HAll := Lib.hid (chkM_zero hck).2.1
    have HRE := Lib.hid (show rangeE l n ids f t = rgE l ids (slK f t ids ids.length) by unfold rangeE; rw [if_pos hE])
    have HRB := Lib.hid (show rangeB l n ids f t = if rgE l ids (slK f t ids ids.length) = 0 then rgB l ids (slK f t ids ids.length) else [] by unfold rangeB; rw [HRE.out])
    have hplen := slK_len f t ids ids.length
    rw [hsl] at hps
    rw [hE, hsl]
    clear hE hsl hck
    generalize slK f t ids ids.length = ps at *
    have hgl := hC.lt
    go_wp2_with fail
    go_loopw [12, 13] (fun v i wr => ∃ (k : Nat) (A5 : Option Addr) (c5 : Nat), k ≤ ps.length ∧ i = .int .i64 k ∧ v = .slice A5 (rgB l ids (ps.take k)).length c5 ∧ Hid (∀ j (h : j < ps.length), j < k → pcE l ids ps[j] = 0) ∧ (rgB l ids (ps.take k)).length ≤ 1048576 * k ∧
      wr.ownsRow w2.heap.size 5 1 (.slice A5 (rgB l ids (ps.take k)).length c5) (rgB l ids (ps.take k)).length ((rgB l ids (ps.take k)).map (.int .u8)) ∧ Grew w2 wr) (fun _ i _ => ps.length - (intOf i).toNat)
    case atStart => exact ⟨0, none, 0, Nat.zero_le _, rfl, rfl, Lib.hid (fun j h h' => absurd h' (Nat.not_lt_zero _)), Nat.zero_le _, World.ownsRow_nil _ _ _ _, Grew.refl _⟩
    case round =>
      obtain ⟨k, A5, c5, hk, rfl, rfl, HP, hbl, hown, hch⟩ := hrel
      have hwr := hch.size
      have hC5 := hC.of hch
      by_cases hlt : k < ps.length
      · obtain ⟨ad, rfl, hbk, d0, d1, d2⟩ := pcs_at (own_row (own_below hps hch)) hlt
        obtain ⟨i, a, c, hpe, hil, hac, hcn⟩ := HBd.out ps[k] (List.getElem_mem hlt)
        have hRt := Lib.hid (rgB_take (l := l) (ids := ids) hlt)
        have hRAt := Lib.hid (rgE_at (l := l) (ids := ids) hlt HP.out)
        have HPk := Lib.hid (fun (h0 : pcE l ids ps[k] = 0) j (h : j < ps.length) (hj : j < k + 1) => (show pcE l ids ps[j] = 0 by
          rcases Nat.lt_succ_iff_lt_or_eq.1 hj with h1 | h1
          · exact HP.out j h h1
          · subst h1; exact h0))
        rw [hpe] at d0 d1 d2 hRt hRAt HPk
        simp only at d0 d1 d2
        have hl5 := hp1.below hch hB1
        obtain ⟨ad2, rfl, hbk2, x0, x1⟩ := ids_at (hr1.up hch hB1) hil
        have hx8 := (ok_at HAll.out hil).2
        have hgd : ids.getD i (0, 0) = ids[i] := by rw [List.getD_eq_getElem?_getD, List.getElem?_eq_getElem hil]; rfl
        have hpE : pcE l ids (i, (a : Int), (c : Int)) = fndE l ids[i] := by unfold pcE; rw [hgd]
        have hpB : pcB l ids (i, (a : Int), (c : Int)) = ((fndP l ids[i]).zs.drop a).take (c - a) := by unfold pcB; rw [hgd]; simp only [Int.toNat_natCast]; rw [show ((c : Int) - a).toNat = c - a by omega]
        rw [hpE] at hRAt HPk
        rw [hpB] at hRt
        clear hgd hpE hpB hpe HP
        have HFi := Lib.hid (fun W (h : Grew wr W) => refFind25_any L lc B l ids[i] W ((hl1.up hch hB1).up h (Nat.le_trans hB1 hwr)) (hl5.below h (Nat.le_trans hB1 hwr)) (Nat.le_trans (Nat.le_trans hB1 hwr) h.size) Hok.out hlm)
        generalize ids[i] = x at *
        obtain ⟨xs, xn⟩ := x
        simp only at x0 x1 hcn hx8
        have hil2 : (i : Int) < (ids.length : Int) := by omega
        have cc1 := (hC5.cell 1).trans (show _ = some (.slice (some ad2) ids.length cap) from rfl)
        go_upto_region 8 with (fail)
        by_cases hz : fndE l (xs, xn) = 0
        · obtain ⟨ch, _, hmem, hidd, hfp, hlen⟩ := fnd_len hz
          unfold Part.v at HFi
          rw [hfp, hz] at HFi
          rw [hfp] at hRt
          have HP2 := Lib.hid (HPk.out hz)
          obtain ⟨_, hzb, hzc, hzl⟩ := Hok.out ch hmem
          have hrow := hl5 ch hmem
          simp only at hlen
          clear hfp hz hidd HPk hRAt
          obtain ⟨⟨cs, cn⟩, ⟨pA, pc, zs⟩⟩ := ch
          simp only at hlen hzb hzc hzl hrow hRt HFi
          refine wp_region_g 15 (by kernel_rfl) ?_
          refine AllC.head 0 15 (fuel := 1) (by first | exact fun h k => Grew.trans h k | exact fun h k => cls_grew h k) (grew_drew _) (by rfl) (by kernel_rfl) ?_
          simp only [List.take_succ_cons, List.take_zero, List.drop_succ_cons, List.drop_zero]
          repeat (first
            | (refine HeadC.val (by rfl) ?_
               apply Exists.intro
               refine ⟨fun w' hw' => ?_, ?_⟩
               · (have hf_0 := cell_up hw' cc1; have hf_1 := cell_up hw' d0; have hf_2 := cell_up hw' x0; have hf_3 := cell_up hw' x1; (go_simp) <;> (try go_ints) <;> with_reducible rfl)
               try simp only [Act.put, List.setIfInBounds_toArray, List.set_cons_zero, List.set_cons_succ])
            | (refine HeadC.call (by rfl) ?_
               apply Exists.intro; apply Exists.intro
               refine ⟨fun w' hw' => ?_, ?_⟩
               · (have hf_0 := cell_up hw' cc1; have hf_1 := cell_up hw' d0; have hf_2 := cell_up hw' x0; have hf_3 := cell_up hw' x1; (go_simp) <;> first | (refine ⟨?_, ?_⟩ <;> with_reducible rfl) | with_reducible rfl)
               apply Exists.intro
               refine ⟨fun w' hw' => ?_, ?_⟩
               · (first | exact HFi.out _ hw')
               try simp only [Act.put, List.setIfInBounds_toArray, List.set_cons_zero, List.set_cons_succ])
            | (refine HeadC.shut (by rfl) ?_
               try simp only [Act.put, List.setIfInBounds_toArray, List.set_cons_zero, List.set_cons_succ]))
          refine HeadC.nil ?_
          refine AllC.tail 15 (by rfl) (by kernel_rfl) ?_
          intro wt hwt
          simp only [List.drop_succ_cons, List.drop_zero]
          obtain ⟨wa, hwa⟩ : ∃ wa, wa = wt := ⟨_, rfl⟩
          subst hwa
          have hg1 := (grew_drew wr).trans hwt
          replace d1 := cell_up hg1 d1
          replace d2 := cell_up hg1 d2
          replace hrow := hrow.up hg1 (Nat.le_trans hB1 hwr)
          replace hown := own_below hown hg1
          replace hch := hch.trans hg1
          have hps1 := own_below hps hch
          clear hwt hg1 d0 x0 x1 cc1 HFi hl5 hC5
          obtain ⟨adz, rfl, hbz, _⟩ := hrow.at_ (k := a) (by rw [List.length_map]; omega)
          have hca : ¬ pc = a := by omega
          have hrc := hrow.cut' (lo := a) (m := c - a) (cap := pc) (by omega)
          rw [if_neg hca, ← List.map_drop, ← List.map_take] at hrc
          have hll : ((zs.drop a).take (c - a)).length = c - a := by rw [List.length_take, List.length_drop]; omega
          have hlm' : (((zs.drop a).take (c - a)).map (Value.int .u8)).length = (c - a) * 1 := by rw [List.length_map, hll, Nat.mul_one]
          have HLL := Lib.hid hll
          have hca2 : (a : Int) ≤ c := by omega
          have hcc2 : (c : Int) ≤ pc := by omega
          have hcn8 : c - a ≤ 8192 := by omega
          clear hll
          generalize (zs.drop a).take (c - a) = ys at *
          have hw2 := hch.size
          have hnq : ¬ (fun i => (Value.slice A5 (rgB l ids (ps.take k)).length c5).ownBlock = some i) (ad.add (k * 3)).block := fun h => own_own_ne hown hps1 (by decide) _ h (by rw [add_block]; rfl)
          have hnz : ∀ i, (Value.slice A5 (rgB l ids (ps.take k)).length c5).ownBlock = some i → B ≤ i := fun i hi => Nat.le_trans hB1 (own_lt hown i hi)
          go_upto_region 11 with (fail)
          refine wp_region_cls (Ch (fun i => (Value.slice A5 (rgB l ids (ps.take k)).length c5).ownBlock = some i) wa) 14 (by kernel_rfl) ?_
          have hc0 := (Ch.refl (fun i => (Value.slice A5 (rgB l ids (ps.take k)).length c5).ownBlock = some i) wa).drew
          refine AllC.head 0 13 (fuel := 2) (by first | exact fun h k => Grew.trans h k | exact fun h k => cls_grew h k) (hc0) (by rfl) (by kernel_rfl) ?_
          simp only [List.take_succ_cons, List.take_zero, List.drop_succ_cons, List.drop_zero]
          repeat (first
            | (refine HeadC.val (by rfl) ?_
               apply Exists.intro
               refine ⟨fun w' hw' => ?_, ?_⟩
               · (have hf_0 := hw'.cell d1 hnq; have hf_1 := hw'.cell d2 hnq; (go_simp) <;> (try go_ints) <;> with_reducible rfl)
               try simp only [Act.put, List.setIfInBounds_toArray, List.set_cons_zero, List.set_cons_succ])
            | (refine HeadC.shut (by rfl) ?_
               try simp only [Act.put, List.setIfInBounds_toArray, List.set_cons_zero, List.set_cons_succ]))
          refine HeadC.nil ?_
          refine AllC.one 13 (by kernel_rfl) rfl ?_
          intro wg hg K hK
          have hg0 := (grew_drew wa).trans hg
          have hown8 := own_below hown hg0
          refine step_append_row rfl (.tmp 49) (.tmp 61) rfl w2.heap.size elem_u8 (by rfl) hown8 B (by rfl) hlm' (hrc.up hg0 (Nat.le_trans hB1 hw2)) (ones_u8 _) (by unfold maxLen; omega) (by omega) (by have := hg0.size; omega) ?_
          intro A9 c9 w9 hown9 hg9 _
          have hc9 : Ch (fun i => (Value.slice A5 (rgB l ids (ps.take k)).length c5).ownBlock = some i) wa w9 := (Ch.of_below hg0).trans (Ch.of_own hg9)
          refine hK.out _ _ hc9 ?_
          have hch9 : Below w2.heap.size w2 w9 := Below.trans (B := w2.heap.size) hch (hc9.below hw2 (fun i hi => own_lt hown i hi))
          clear hK K hg hg0 hg9 hown8 hc9 hc0
          try simp only [Act.put, List.setIfInBounds_toArray, List.set_cons_zero, List.set_cons_succ]
          refine AllC.tail 14 (by rfl) (by kernel_rfl) ?_
          intro wt hwt
          simp only [List.drop_succ_cons, List.drop_zero]
          have hown10 := own_below hown9 hwt
          have hch10 : Grew w2 wt := Grew.trans hch9 hwt
          clear hown9 hwt hch9
          go_wp2_with fail
          go_roundw
          case rel =>
            refine ⟨k + 1, A9, c9, by omega, by go_num, ?_, Lib.hid HP2.out, ?_, ?_, hch10⟩
            · rw [hRt.out, List.length_append, HLL.out]
            · rw [hRt.out, List.length_append, HLL.out]; omega
            · rw [hRt.out, List.length_append, List.map_append, HLL.out]; exact hown10
          case measure => simp [intOf]; omega
        · have HN := Lib.hid hz
          have hne : (fndE l (xs, xn) != 0) = true := by rw [bne_iff_ne]; exact hz
          have HR := Lib.hid (hRAt.out hz)
          clear HPk hRAt hRt hz
          generalize fndE l (xs, xn) = er at *
          generalize (fndP l (xs, xn)).v = pv at *
          refine wp_region_g 15 (by kernel_rfl) ?_
          refine AllC.head 0 15 (fuel := 1) (by first | exact fun h k => Grew.trans h k | exact fun h k => cls_grew h k) (grew_drew _) (by rfl) (by kernel_rfl) ?_
          simp only [List.take_succ_cons, List.take_zero, List.drop_succ_cons, List.drop_zero]
          repeat (first
            | (refine HeadC.val (by rfl) ?_
               apply Exists.intro
               refine ⟨fun w' hw' => ?_, ?_⟩
               · (have hf_0 := cell_up hw' cc1; have hf_1 := cell_up hw' d0; have hf_2 := cell_up hw' x0; have hf_3 := cell_up hw' x1; (go_simp) <;> (try go_ints) <;> with_reducible rfl)
               try simp only [Act.put, List.setIfInBounds_toArray, List.set_cons_zero, List.set_cons_succ])
            | (refine HeadC.call (by rfl) ?_
               apply Exists.intro; apply Exists.intro
               refine ⟨fun w' hw' => ?_, ?_⟩
               · (have hf_0 := cell_up hw' cc1; have hf_1 := cell_up hw' d0; have hf_2 := cell_up hw' x0; have hf_3 := cell_up hw' x1; (go_simp) <;> first | (refine ⟨?_, ?_⟩ <;> with_reducible rfl) | with_reducible rfl)
               apply Exists.intro
               refine ⟨fun w' hw' => ?_, ?_⟩
               · (first | exact HFi.out _ hw')
               try simp only [Act.put, List.setIfInBounds_toArray, List.set_cons_zero, List.set_cons_succ])
            | (refine HeadC.shut (by rfl) ?_
               try simp only [Act.put, List.setIfInBounds_toArray, List.set_cons_zero, List.set_cons_succ]))
          refine HeadC.nil ?_
          refine AllC.tail 15 (by rfl) (by kernel_rfl) ?_
          intro wt hwt
          simp only [List.drop_succ_cons, List.drop_zero]
          have hg1 := (grew_drew wr).trans hwt
          have hfin := Grew.trans gA (Grew.trans hch hg1)
          go_wp2_with fail
          go_ret2
          have e1 : rangeE l n ids f t = er := by rw [HRE.out, HR.out]
          have e2 : rangeB l n ids f t = [] := by rw [HRB.out, HR.out, if_neg HN.out]
          refine ⟨none, 0, ?_, ?_, hfin⟩
          · rw [e1, e2]; rfl
          · rw [e2]; exact World.ownsRow_nil _ _ _ _
      · obtain rfl : k = ps.length := by omega
        have e0 := rgE_ok (l := l) (ids := ids) (ps := ps) (fun j h => HP.out j h h)
        have HE1 := Lib.hid (show rangeE l n ids f t = 0 by rw [HRE.out, e0])
        have HE2 := Lib.hid (show rangeB l n ids f t = rgB l ids ps by rw [HRB.out, e0, if_pos rfl])
        rw [List.take_length] at hown ⊢
        clear e0 hbl
        go_wp2_with fail
        go_ret2
        refine ⟨A5, c5, ?_, ?_, Grew.trans gA hch⟩
        · rw [HE1.out, HE2.out]; rfl
        · rw [HE2.out]; exact own_mono hown gA.size
  · have HN := Lib.hid hE
    have HRE := Lib.hid (show rangeE l n ids f t = slE n ids f t by unfold rangeE; rw [if_neg hE])
    have HRB := Lib.hid (show rangeB l n ids f t = [] by unfold rangeB; rw [HRE.out, if_neg hE])
    have hne : (slE n ids f t != 0) = true := by rw [bne_iff_ne]; exact hE
    clear hE
    generalize slE n ids f t = er at *
    go_wp2_with fail
    go_ret2
    refine ⟨none, 0, ?_, ?_, gA⟩
    · rw [HRB.out, HRE.out]; rfl
    · rw [HRB.out]; exact World.ownsRow_nil _ _ _ _

set_option maxRecDepth 100000 in
set_option maxHeartbeats 1000000 in
theorem refAssemble25_any (n : Int) (A : Option Addr) (cap B : Nat) (ids : List IdZ) (L : Option Addr) (lc : Nat) (l : List ChZ) (w : World) (hr : Row w B A (idsC ids)) (hl : Row w B L (chsC l)) (hp : LieC w B l) (hok : OkC l) (hB : B ≤ w.heap.size) (hm : ids.length ≤ 9223372036854775807) (hlm : l.length ≤ 4611686018427387904) :
    Calls Try.prog 78 #[.agg #[.int .i64 n, .slice A ids.length cap], .slice L l.length lc] w (RangeRes l n ids 0 n w) := by
  have g0 := grew_alloc w (.cells #[.int .i64 n, .slice A ids.length cap] 33)
  have hC := Blk.new w 33 #[.int .i64 n, .slice A ids.length cap]
  have HC := Lib.hid (refCheck25_any n A cap B ids _ (hr.below g0 hB) (Nat.le_trans hB g0.size) hm)
  have HR := Lib.hid (fun W (h : Grew w W) => refRange25_any n A cap B ids 0 n L lc l W (hr.below h hB) (hl.below h hB) (hp.below h hB) hok (Nat.le_trans hB h.size) hm hlm)
  have c0 := (hC.cell 0).trans (show _ = some (.int .i64 n) from rfl)
  have c1 := (hC.cell 1).trans (show _ = some (.slice A ids.length cap) from rfl)
  clear hok hp hr hl hC
  go_enter Try.func78, Try.ntmps78
  go_wp2_with fail
  generalize w.alloc (.cells #[.int .i64 n, .slice A ids.length cap] 33) = w1 at *
  generalize hgc : w.heap.size = gc at *
  have HGc := Lib.hid hgc
  clear hgc
  refine HC.out.mono ?_
  rintro e w2 ⟨rfl, hb⟩
  replace c0 := cell_up hb c0
  replace c1 := cell_up hb c1
  have hb2 := Grew.trans g0 hb
  clear hb HC g0
  by_cases he : chkM n ids = 0
  · rw [he]
    have HR2 := Lib.hid (HR.out _ hb2)
    clear HR he
    go_wp2_with fail
    refine HR2.out.mono ?_
    rintro e w3 ⟨A2, c2, rfl, hown, hb⟩
    have hb3 := Grew.trans hb2 hb
    have hown2 := own_mono hown hb2.size
    clear hown hb HR2
    generalize hx : rangeB l n ids 0 n = x at *
    have HX := Lib.hid hx
    generalize hy : rangeE l n ids 0 n = y at *
    have HY := Lib.hid hy
    clear hx hy
    go_wp2_with fail
    go_ret2
    refine ⟨A2, c2, ?_, ?_, hb3⟩
    · rw [HX.out, HY.out]; rfl
    · rw [HX.out]; exact hown2
  · have HE := Lib.hid (show rangeE l n ids 0 n = chkM n ids by
      have h : slE n ids 0 n = chkM n ids := by unfold slE; rw [if_neg he]
      unfold rangeE; rw [h, if_neg he])
    have HB := Lib.hid (show rangeB l n ids 0 n = [] by unfold rangeB; rw [HE.out, if_neg he])
    have hne : (chkM n ids != 0) = true := by rw [bne_iff_ne]; exact he
    clear he HR
    generalize chkM n ids = er at *
    go_wp2_with fail
    go_ret2
    refine ⟨none, 0, ?_, ?_, hb2⟩
    · rw [HB.out, HE.out]; rfl
    · rw [HB.out]; exact World.ownsRow_nil _ _ _ _

end Go.Proofs.Ytpoiejgoongllaa
