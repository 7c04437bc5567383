/-
  Take of a receiver.
-/
import Derived.Test.YtpoiejgoongllaaStep37
namespace Go.Proofs.Ytpoiejgoongllaa
section
set_option linter.unusedVariables false
set_option linter.unusedSimpArgs false
set_option linter.unnecessarySimpa false
open Go.RowKit
attribute [local go_sem ↓] Go.wp_at_zero Go.wp_at_succ

def TakeRes (base g M : Nat) (L : RcL) (r : Rcv) (k : Int) (x : IdZ) (f : Int) (zs : List Int) (w : World) (e : Ending) (w' : World) : Prop :=
  ∃ L', e = .returned (.bool (takeR r k x f zs).2) ∧ Stp w w' base g M (M + 2) L L' r (takeR r k x f zs).1
theorem takeR_bad {r : Rcv} {k : Int} {x : IdZ} {f : Int} {zs : List Int} (h : ¬ takesP r k x f zs) : takeR r k x f zs = (r, false) := if_neg h
theorem Stp.more {w w' : World} {base g M M1 M2 : Nat} {L L' : RcL} {r r' : Rcv} (h : Stp w w' base g M M1 L L' r r') (hm : M1 ≤ M2) : Stp w w' base g M M2 L L' r r' := ⟨h.is.more hm, h.ch, h.fr⟩

theorem updF_updF {α : Type} (f : IdZ → α) (x : IdZ) (a b : α) : updF (updF f x a) x b = updF f x b := by
  funext y; unfold updF; by_cases e : y = x <;> simp [e]
theorem takeR_more {r : Rcv} {k : Int} {x : IdZ} {f : Int} {zs : List Int} (h : takesP r k x f zs) (hl : ((r.pref x ++ zs).length : Int) < x.2) : takeR r k x f zs = ({ r with pref := updF r.pref x (r.pref x ++ zs) }, true) := by unfold takeR; rw [if_pos h, if_pos hl]
theorem takeR_wrong {r : Rcv} {k : Int} {x : IdZ} {f : Int} {zs : List Int} (h : takesP r k x f zs) (hl : ¬ ((r.pref x ++ zs).length : Int) < x.2) (hi : ¬ idOf (r.pref x ++ zs) = x) : takeR r k x f zs = ({ r with pref := updF r.pref x [] }, false) := by unfold takeR; rw [if_pos h, if_neg hl, if_neg hi]
theorem takeR_done {r : Rcv} {k : Int} {x : IdZ} {f : Int} {zs : List Int} (h : takesP r k x f zs) (hl : ¬ ((r.pref x ++ zs).length : Int) < x.2) (hi : idOf (r.pref x ++ zs) = x) : takeR r k x f zs = ({ r with pref := updF r.pref x [], comp := updF r.comp x (some (r.pref x ++ zs)), miss := r.miss.erase x, recv := r.recv ++ [x] }, true) := by unfold takeR; rw [if_pos h, if_neg hl, if_pos hi]

theorem hnP_of {w : World} {base g M : Nat} {L : RcL} {r : Rcv} {x : IdZ} {A : Option Addr} {c : Nat} {ys : List Int} (h : RcvIs w base g M { L with P := updF L.P x (A, c) } { r with pref := updF r.pref x ys }) (hys : ys ≠ []) :
    ∀ y, updF (updF r.pref x ys) x [] y ≠ [] → ∀ k, (Value.slice A ys.length c).ownBlock = some k → (({ L with P := updF L.P x (A, c) } : RcL).pv y (updF (updF r.pref x ys) x [] y)).ownBlock ≠ some k := by
  intro y hy k hk
  have e : y ≠ x := fun e => by subst e; simp [updF] at hy
  have e2 : updF (updF r.pref x ys) x [] y = updF r.pref x ys y := by unfold updF; simp [e]
  rw [e2] at hy ⊢
  refine h.d3 x y (fun h => e h.symm) (by simp [updF]; exact hys) hy k ?_
  unfold RcL.pv
  simp only [updF, if_true]
  exact hk
theorem del_erase (l : List IdZ) (x : IdZ) (h : x ∈ l) : l.eraseIdx (l.idxOf x) = l.erase x ∧ (l.erase x).length + 1 = l.length := by
  refine ⟨(List.erase_eq_eraseIdx_of_idxOf rfl).symm, ?_⟩
  rw [List.length_erase_of_mem h]
  have := List.length_pos_of_mem h
  omega
set_option maxRecDepth 100000 in
set_option maxHeartbeats 4000000 in
theorem take37_any {base g M : Nat} {L : RcL} {r : Rcv} (x : Pk) (w : World) (h : RcvIs w base g M L r) (ok : RcOk r) (hwf : WfI x.id) (hr : Row w w.heap.size x.p.A (x.p.zs.map (.int .u8))) (hz : Byt x.p.zs) (hm : x.p.zs.length ≤ 4611686018427387904) (hM : M ≤ 1125899906842624) (hbase : base ≤ w.heap.size) :
    Calls Try.prog 24 #[.pointer (some ⟨g, 0, none⟩), .agg #[.int .i64 x.kind, .int .u64 x.id.1, .int .i64 x.id.2, .int .i64 x.frm, x.p.v]] w (TakeRes base g M L r x.kind x.id x.frm x.p.zs w) := by
  obtain ⟨k, ⟨i1, i2⟩, f, pA, pc, zs⟩ := x
  simp only [Part.v] at hr hz hm hwf ⊢
  have g1 := grew_alloc w (.cells #[.int .i64 k, .int .u64 i1, .int .i64 i2, .int .i64 f, .slice pA zs.length pc] 55)
  have k1 := Blk.new w 55 #[.int .i64 k, .int .u64 i1, .int .i64 i2, .int .i64 f, .slice pA zs.length pc]
  have H := h.of g1
  have hrow := hr.up g1 (Nat.le_refl _)
  have hbase1 := Nat.le_trans hbase g1.size
  obtain ⟨n1, n2, n3, n4⟩ := ok.len
  have H0 := Lib.hid h
  have OK := Lib.hid ok
  have HZ := Lib.hid hz
  clear h ok hz hr
  go_enter Try.func24, Try.ntmps24
  go_wp2_with fail
  generalize w.alloc (.cells #[.int .i64 k, .int .u64 i1, .int .i64 i2, .int .i64 f, .slice pA zs.length pc] 55) = w1 at *
  have hgp0 : w.heap.size < w1.heap.size := k1.lt
  generalize hgp : w.heap.size = gp at *
  have HGp := Lib.hid hgp
  clear hgp
  have HG1 : Hid (Grew w w1) := Lib.hid g1
  clear g1
  have c1 := (k1.cell 1).trans (show _ = some (.int .u64 i1) from rfl)
  have c2 := (k1.cell 2).trans (show _ = some (.int .i64 i2) from rfl)
  refine wp_region_g 7 (by kernel_rfl) ?_
  refine AllC.head 0 7 (fuel := 1) (by first | exact fun h k => Grew.trans h k | exact fun h k => cls_grew h k) (grew_drew _) (by rfl) (by kernel_rfl) ?_
  simp only [List.take_succ_cons, List.take_zero, List.drop_succ_cons, List.drop_zero]
  repeat (first
    | (refine HeadC.val (by rfl) ?_
       apply Exists.intro
       refine ⟨fun w' hw' => ?_, ?_⟩
       · (have hf_0 := (H.of hw').cells.2.2.2.2.1; have hf_1 := cell_up hw' c1; have hf_2 := cell_up hw' c2; (go_simp) <;> (try go_ints) <;> with_reducible rfl)
       try simp only [Act.put, List.setIfInBounds_toArray, List.set_cons_zero, List.set_cons_succ])
    | (refine HeadC.call (by rfl) ?_
       apply Exists.intro; apply Exists.intro
       refine ⟨fun w' hw' => ?_, ?_⟩
       · (have hf_0 := (H.of hw').cells.2.2.2.2.1; have hf_1 := cell_up hw' c1; have hf_2 := cell_up hw' c2; (go_simp) <;> first | (refine ⟨?_, ?_⟩ <;> with_reducible rfl) | with_reducible rfl)
       apply Exists.intro
       refine ⟨fun w' hw' => ?_, ?_⟩
       · (first | exact index_id L.am L.cm w'.heap.size r.miss (i1, i2) w' (own_row (H.of hw').miss) (Nat.le_refl _) (by omega))
       try simp only [Act.put, List.setIfInBounds_toArray, List.set_cons_zero, List.set_cons_succ])
    | (refine HeadC.shut (by rfl) ?_
       try simp only [Act.put, List.setIfInBounds_toArray, List.set_cons_zero, List.set_cons_succ]))
  refine HeadC.nil ?_
  refine AllC.tail 7 (by rfl) (by kernel_rfl) ?_
  intro wt hwt
  simp only [List.drop_succ_cons, List.drop_zero]
  have hg2 : Grew w1 wt := (grew_drew _).trans hwt
  replace H := H.of hg2
  replace k1 := k1.of hg2
  replace hrow := hrow.up hg2 (by omega)
  replace HG1 := Lib.hid (HG1.out.trans hg2)
  have hgp1 := hg2.size
  clear c1 c2 hwt hg2
  have c1 := (k1.cell 1).trans (show _ = some (.int .u64 i1) from rfl)
  have c2 := (k1.cell 2).trans (show _ = some (.int .i64 i2) from rfl)
  go_wp2_with fail
  refine wp_region_g 7 (by kernel_rfl) ?_
  refine AllC.head 0 7 (fuel := 1) (by first | exact fun h k => Grew.trans h k | exact fun h k => cls_grew h k) (grew_drew _) (by rfl) (by kernel_rfl) ?_
  simp only [List.take_succ_cons, List.take_zero, List.drop_succ_cons, List.drop_zero]
  repeat (first
    | (refine HeadC.val (by rfl) ?_
       apply Exists.intro
       refine ⟨fun w' hw' => ?_, ?_⟩
       · (have hf_0 := (H.of hw').cells.2.2.2.1; have hf_1 := (H.of hw').getp' hwf; have hf_2 := cell_up hw' c1; have hf_3 := cell_up hw' c2; (go_simp) <;> (try go_ints) <;> with_reducible rfl)
       try simp only [Act.put, List.setIfInBounds_toArray, List.set_cons_zero, List.set_cons_succ])
    | (refine HeadC.shut (by rfl) ?_
       try simp only [Act.put, List.setIfInBounds_toArray, List.set_cons_zero, List.set_cons_succ]))
  refine HeadC.nil ?_
  refine AllC.tail 7 (by rfl) (by kernel_rfl) ?_
  intro wt hwt
  simp only [List.drop_succ_cons, List.drop_zero]
  -- behind the look-ups
  have hg2 : Grew _ wt := (grew_drew _).trans hwt
  replace H := H.of hg2
  replace k1 := k1.of hg2
  replace hrow := hrow.up hg2 (by omega)
  replace HG1 := Lib.hid (HG1.out.trans hg2)
  have hgp2 := hg2.size
  clear c1 c2 hwt hg2
  have e0 := (k1.cell 0).trans (show _ = some (.int .i64 k) from rfl)
  have e1 := (k1.cell 1).trans (show _ = some (.int .u64 i1) from rfl)
  have e2 := (k1.cell 2).trans (show _ = some (.int .i64 i2) from rfl)
  have e3 := (k1.cell 3).trans (show _ = some (.int .i64 f) from rfl)
  have e4 := (k1.cell 4).trans (show _ = some (.slice pA zs.length pc) from rfl)
  have HPO := Lib.hid (H.prefOwn (i1, i2))
  have hpl : (r.pref (i1, i2)).length ≤ 8192 := by
    by_cases hp : r.pref (i1, i2) = []
    · rw [hp]; simp
    · obtain ⟨p1, p2, _⟩ := OK.out.pref _ hp
      have := (OK.out.size (OK.out.sub _ p1)).2
      omega
  generalize hpa : (pvO L r (i1, i2)).1 = pa at *
  generalize hpc : (pvO L r (i1, i2)).2 = ppc at *
  generalize hpn : (r.pref (i1, i2)).length = pl at *
  have HPa := Lib.hid hpa
  have HPc := Lib.hid hpc
  have HPn := Lib.hid hpn
  clear hpa hpc hpn
  generalize hix : idxI r.miss (i1, i2) = ix at *
  have HIx := Lib.hid hix
  clear hix
  have H0' := H0
  by_cases hk2 : k = 2
  case neg =>
    have HB : Hid (¬ takesP r k (i1, i2) f zs) := Lib.hid (by unfold takesP; rintro ⟨t1, t2, t3, t4, t5, t6⟩; exact hk2 t1)
    clear hrow k1 H
    go_wp2_with fail
    go_ret
    exact ⟨L, by rw [takeR_bad HB.out]; rfl, by rw [takeR_bad HB.out]; exact (Stp.grew H0.out HG1.out).more (by omega)⟩
  subst hk2
  by_cases hl1 : 1 ≤ zs.length
  case neg =>
    have HB : Hid (¬ takesP r 2 (i1, i2) f zs) := Lib.hid (by unfold takesP; rintro ⟨t1, t2, t3, t4, t5, t6⟩; omega)
    have hl1I : (zs.length : Int) < 1 := by omega
    have hl1N : zs.length < 1 := by omega
    clear hrow k1 H
    go_wp2_with fail
    go_ret
    exact ⟨L, by rw [takeR_bad HB.out]; rfl, by rw [takeR_bad HB.out]; exact (Stp.grew H0.out HG1.out).more (by omega)⟩
  have hl1I : ¬ (zs.length : Int) < 1 := by omega
  have hl1N : ¬ zs.length < 1 := by omega
  by_cases hl2 : zs.length ≤ 1024
  case neg =>
    have HB : Hid (¬ takesP r 2 (i1, i2) f zs) := Lib.hid (by unfold takesP; rintro ⟨t1, t2, t3, t4, t5, t6⟩; omega)
    have hl2I : (1024 : Int) < (zs.length : Int) := by omega
    have hl2N : 1024 < zs.length := by omega
    clear hrow k1 H
    go_wp2_with fail
    go_ret
    exact ⟨L, by rw [takeR_bad HB.out]; rfl, by rw [takeR_bad HB.out]; exact (Stp.grew H0.out HG1.out).more (by omega)⟩
  have hl2I : ¬ (1024 : Int) < (zs.length : Int) := by omega
  have hl2N : ¬ 1024 < zs.length := by omega
  by_cases hmem : (i1, i2) ∈ r.miss
  case neg =>
    have HB : Hid (¬ takesP r 2 (i1, i2) f zs) := Lib.hid (by unfold takesP; rintro ⟨t1, t2, t3, t4, t5, t6⟩; exact hmem t4)
    have hixI : ix < 0 := Int.lt_of_le_of_lt (Int.le_of_eq (HIx.out.symm.trans (idxI_no hmem))) (by decide)
    clear hmem
    clear hrow k1 H
    go_wp2_with fail
    go_ret
    exact ⟨L, by rw [takeR_bad HB.out]; rfl, by rw [takeR_bad HB.out]; exact (Stp.grew H0.out HG1.out).more (by omega)⟩
  obtain ⟨n, rfl, hn⟩ : ∃ n : Nat, ix = (n : Int) ∧ n = r.miss.idxOf (i1, i2) := ⟨r.miss.idxOf (i1, i2), by rw [← HIx.out]; unfold idxI; rw [if_pos hmem], rfl⟩
  have hnl : n < r.miss.length := by rw [hn]; exact List.idxOf_lt_length_of_mem hmem
  have HN := Lib.hid hn
  have HMem := Lib.hid hmem
  have hixI : ¬ (n : Int) < 0 := by omega
  clear hn hmem
  by_cases hf : f = (pl : Int)
  case neg =>
    have HB : Hid (¬ takesP r 2 (i1, i2) f zs) := Lib.hid (by unfold takesP; rintro ⟨t1, t2, t3, t4, t5, t6⟩; rw [HPn.out] at t5; exact hf t5)
    clear hrow k1 H
    go_wp2_with fail
    go_ret
    exact ⟨L, by rw [takeR_bad HB.out]; rfl, by rw [takeR_bad HB.out]; exact (Stp.grew H0.out HG1.out).more (by omega)⟩
  subst hf
  have hwr : IntKind.i64.wrap ((pl : Int) + (zs.length : Int)) = (pl : Int) + (zs.length : Int) := Go.IntWalk.i64_in _ (by omega)
  by_cases hs : (pl : Int) + (zs.length : Int) ≤ i2
  case neg =>
    have HB : Hid (¬ takesP r 2 (i1, i2) (pl : Int) zs) := Lib.hid (by unfold takesP; rintro ⟨t1, t2, t3, t4, t5, t6⟩; rw [HPn.out] at t6; exact hs t6)
    have hsI : i2 < (pl : Int) + (zs.length : Int) := by omega
    clear hrow k1 H
    go_wp2_with fail
    go_ret
    exact ⟨L, by rw [takeR_bad HB.out]; rfl, by rw [takeR_bad HB.out]; exact (Stp.grew H0.out HG1.out).more (by omega)⟩
  have hsI : ¬ i2 < (pl : Int) + (zs.length : Int) := by omega
  have HT : Hid (takesP r 2 (i1, i2) (pl : Int) zs) := Lib.hid ⟨rfl, hl1, hl2, HMem.out, by rw [HPn.out], by rw [HPn.out]; exact hs⟩
  have HOp := HPO.out
  have hbt : base ≤ wt.heap.size := by omega
  have HRP := Lib.hid (rfl : r.pref (i1, i2) = r.pref (i1, i2))
  clear hwr
  go_upto_region 6 with (at_builtin; refine wpList_append_row rfl (.tmp 59) (.tmp 61) rfl base elem_u8 (by rfl) HOp _ (by rfl) (by simp) hrow (ones_u8 zs) (by unfold maxLen; omega) (by omega) hbt ?_; intro A3 c3 w3 hown3 hg3 hor3)
  have hyl : (r.pref (i1, i2) ++ zs).length = pl + zs.length := by rw [List.length_append, HPn.out]
  have HBys : Hid (Byt (r.pref (i1, i2) ++ zs)) := Lib.hid (fun z hz => by
    rcases List.mem_append.1 hz with h | h
    · by_cases hp : r.pref (i1, i2) = []
      · rw [hp] at h; cases h
      · exact (OK.out.pref _ hp).2.2 z h
    · exact HZ.out z h)
  have hne : r.pref (i1, i2) ++ zs ≠ [] := fun h => by rw [h] at hyl; simp at hyl; omega
  rw [← List.map_append] at hown3
  generalize hys : r.pref (i1, i2) ++ zs = ys at *
  have HYs := Lib.hid hys
  clear hys HRP
  have hc3 : Ch (fun k => (Value.slice pa pl ppc).ownBlock = some k) wt w3 := Ch.of_own hg3
  have hm9 : pl + zs.length ≤ 9216 := by omega
  generalize hmm : pl + zs.length = m at *
  have HM2 : Hid (ys.length = m) := Lib.hid hyl
  clear hmm hyl hg3
  have m3 := (hc3.cell H.cells.2.2.2.1 (own_blk_ne HOp H.blk (by decide)))
  have k3 := k1.ch hc3 (own_blk_ne HOp k1 (by decide))
  have mp3 := H.mp.ch hc3 (H.mp.ne_own HOp)
  have c1 := (k3.cell 1).trans (show _ = some (.int .u64 i1) from rfl)
  have c2 := (k3.cell 2).trans (show _ = some (.int .i64 i2) from rfl)
  clear e0 e1 e2 e3 e4 hrow
  refine wp_region_g 7 (by kernel_rfl) ?_
  refine AllC.head 0 7 (fuel := 1) (by first | exact fun h k => Grew.trans h k | exact fun h k => cls_grew h k) (grew_drew _) (by rfl) (by kernel_rfl) ?_
  simp only [List.take_succ_cons, List.take_zero, List.drop_succ_cons, List.drop_zero]
  repeat (first
    | (refine HeadC.val (by rfl) ?_
       apply Exists.intro
       refine ⟨fun w' hw' => ?_, ?_⟩
       · (have hf_0 := cell_up hw' m3; have hf_1 := cell_up hw' c1; have hf_2 := cell_up hw' c2; (go_simp) <;> (try go_ints) <;> with_reducible rfl)
       try simp only [Act.put, List.setIfInBounds_toArray, List.set_cons_zero, List.set_cons_succ])
    | (refine HeadC.shut (by rfl) ?_
       try simp only [Act.put, List.setIfInBounds_toArray, List.set_cons_zero, List.set_cons_succ]))
  refine HeadC.nil ?_
  refine AllC.tail 7 (by rfl) (by kernel_rfl) ?_
  intro wt hwt
  simp only [List.drop_succ_cons, List.drop_zero]
  have hg4 : Grew w3 wt := (grew_drew _).trans hwt
  refine wpList_store_id rfl (.tmp 66) (.tmp 68) (.tmp 69) rfl Try.underlying94 rfl (mp3.of hg4) (by unfold maxLen; omega) (i1, i2) rfl hwf rfl ?_
  intro w6 hM6 hch6
  have hown4 := own_below hown3 hg4
  have k6 := (k3.of hg4).ch hch6 (fun e => (mp3.of hg4).ne_blk (k3.of hg4) e.symm)
  have hc4 := hc3.next hg4
  rw [← HM2.out] at hM6 hown4 hor3
  rw [← HPa.out, ← HPc.out, ← HPn.out] at hc4 hor3
  have S1 := RcvIs.setPref H hne hc4 hown4 hor3 hM6 hch6
  have hown6 := own_ch hown4 hch6 (fun i hi e => (mp3.of hg4).ne_own hown4 (hi.trans (congrArg some e)))
  rw [HM2.out] at hown6
  have S01 := (Stp.grew H0.out HG1.out).trans S1
  have hb6 : base ≤ w6.heap.size := by have := hc4.size; have := hch6.size; omega
  clear hM6 hc4 hor3 hown4 mp3 k3 hch6 hg4 m3 hc3 HPO HOp c1 c2 hwt hown3 k1 S1 hbt
  try simp only [Act.put, List.setIfInBounds_toArray, List.set_cons_zero, List.set_cons_succ]
  have c2 := (k6.cell 2).trans (show _ = some (.int .i64 i2) from rfl)
  by_cases hlt : (m : Int) < i2
  · have HE := Lib.hid (takeR_more HT.out (by rw [HYs.out, HM2.out]; exact hlt))
    clear H
    go_wp2_with fail
    go_ret
    rw [HYs.out] at HE
    exact ⟨_, by rw [HE.out]; rfl, by rw [HE.out]; exact S01.more (by omega)⟩
  · go_upto_region 9 with (fail)
    have m3 : w6.cell? ⟨g, 3, none⟩ = some (.map (some L.bp)) := S01.is.cells.2.2.2.1
    have c1 := (k6.cell 1).trans (show _ = some (.int .u64 i1) from rfl)
    have HnP := Lib.hid (hnP_of S01.is hne)
    refine wp_region_g 6 (by kernel_rfl) ?_
    refine AllC.head 0 6 (fuel := 1) (by first | exact fun h k => Grew.trans h k | exact fun h k => cls_grew h k) (grew_drew _) (by rfl) (by kernel_rfl) ?_
    simp only [List.take_succ_cons, List.take_zero, List.drop_succ_cons, List.drop_zero]
    repeat (first
      | (refine HeadC.val (by rfl) ?_
         apply Exists.intro
         refine ⟨fun w' hw' => ?_, ?_⟩
         · (have hf_0 := cell_up hw' m3; have hf_1 := cell_up hw' c1; have hf_2 := cell_up hw' c2; (go_simp) <;> (try go_ints) <;> with_reducible rfl)
         try simp only [Act.put, List.setIfInBounds_toArray, List.set_cons_zero, List.set_cons_succ])
      | (refine HeadC.shut (by rfl) ?_
         try simp only [Act.put, List.setIfInBounds_toArray, List.set_cons_zero, List.set_cons_succ]))
    refine HeadC.nil ?_
    refine AllC.tail 6 (by rfl) (by kernel_rfl) ?_
    intro wt hwt
    simp only [List.drop_succ_cons, List.drop_zero]
    have hg7 : Grew w6 wt := (grew_drew _).trans hwt
    have I7 := S01.is.of hg7
    refine wpList_drop_id rfl (.tmp 79) (.tmp 81) rfl Try.underlying94 rfl I7.mp (i1, i2) rfl hwf ?_
    intro w8 hM8 hch8
    have S2 := RcvIs.dropPref I7 hM8 hch8
    have k8 := (k6.of hg7).ch hch8 (fun e => I7.mp.ne_blk (k6.of hg7) e.symm)
    have hown8 := own_ch (own_below hown6 hg7) hch8 (fun i hi e => I7.mp.ne_own (own_below hown6 hg7) (hi.trans (congrArg some e)))
    have S02 := (S01.trans (Stp.grew S01.is hg7)).trans S2
    have hb8 : base ≤ w8.heap.size := by have := hg7.size; have := hch8.size; omega
    simp only [updF_updF] at S02
    clear S01 S2 I7 hM8 hch8 k6 hown6 m3 c1 c2 hg7 hwt H hb6
    try simp only [Act.put, List.setIfInBounds_toArray, List.set_cons_zero, List.set_cons_succ]
    have c1 := (k8.cell 1).trans (show _ = some (.int .u64 i1) from rfl)
    have c2 := (k8.cell 2).trans (show _ = some (.int .i64 i2) from rfl)
    have hOf : ∀ W, Grew w8 W → Calls Try.prog 28 #[.slice A3 m c3] W fun e w' => e = .returned (.agg #[.int .u64 (sumZ ys), .int .i64 (m : Nat)]) ∧ Grew W w' := fun W hg => by
      have h := of_any A3 c3 W.heap.size ys W (own_row (own_below hown8 hg)) (Nat.le_refl _) HBys.out (by rw [HM2.out]; omega)
      rw [HM2.out] at h
      exact h
    have HOf := Lib.hid hOf
    clear hOf
    go_wp2_with fail
    refine wp_region_g 4 (by kernel_rfl) ?_
    refine AllC.head 0 4 (fuel := 1) (by first | exact fun h k => Grew.trans h k | exact fun h k => cls_grew h k) (grew_drew _) (by rfl) (by kernel_rfl) ?_
    simp only [List.take_succ_cons, List.take_zero, List.drop_succ_cons, List.drop_zero]
    repeat (first
      | (refine HeadC.val (by rfl) ?_
         apply Exists.intro
         refine ⟨fun w' hw' => ?_, ?_⟩
         · (have hf_0 := cell_up hw' c1; have hf_1 := cell_up hw' c2; (go_simp) <;> (try go_ints) <;> with_reducible rfl)
         try simp only [Act.put, List.setIfInBounds_toArray, List.set_cons_zero, List.set_cons_succ])
      | (refine HeadC.call (by rfl) ?_
         apply Exists.intro; apply Exists.intro
         refine ⟨fun w' hw' => ?_, ?_⟩
         · (have hf_0 := cell_up hw' c1; have hf_1 := cell_up hw' c2; (go_simp) <;> first | (refine ⟨?_, ?_⟩ <;> with_reducible rfl) | with_reducible rfl)
         apply Exists.intro
         refine ⟨fun w' hw' => ?_, ?_⟩
         · (first | exact HOf.out w' hw')
         try simp only [Act.put, List.setIfInBounds_toArray, List.set_cons_zero, List.set_cons_succ])
      | (refine HeadC.shut (by rfl) ?_
         try simp only [Act.put, List.setIfInBounds_toArray, List.set_cons_zero, List.set_cons_succ]))
    refine HeadC.nil ?_
    refine AllC.tail 4 (by rfl) (by kernel_rfl) ?_
    intro wt hwt
    simp only [List.drop_succ_cons, List.drop_zero]
    have hg9 : Grew w8 wt := (grew_drew _).trans hwt
    have HId : Hid (idOf ys = (sumZ ys, (m : Int))) := Lib.hid (by unfold idOf; rw [HM2.out])
    have S03 := S02.trans (Stp.grew S02.is hg9)
    have k9 := k8.of hg9
    have hown9 := own_below hown8 hg9
    have hb9 := Nat.le_trans hb8 hg9.size
    clear S02 k8 hown8 hwt c1 c2 HOf hg9 hb8
    generalize sumZ ys = sm at *
    have HLt : Hid (¬ ((ys.length : Nat) : Int) < i2) := Lib.hid (by rw [HM2.out]; omega)
    by_cases he : ((sm, (m : Int)) : IdZ) = (i1, i2)
    case neg =>
      have HE := Lib.hid (takeR_wrong HT.out (by rw [HYs.out]; exact HLt.out) (by rw [HYs.out, HId.out]; exact he))
      have HS := Lib.hid S03
      clear S03
      rcases id_ne he with hne2 | ⟨rfl, hne2⟩
      · clear he
        go_wp2_with fail
        go_ret
        exact ⟨_, by rw [HE.out]; rfl, by rw [HE.out]; exact HS.out.more (by omega)⟩
      · clear he
        go_wp2_with fail
        go_ret
        exact ⟨_, by rw [HE.out]; rfl, by rw [HE.out]; exact HS.out.more (by omega)⟩
    case pos =>
      have HE := Lib.hid (takeR_done HT.out (by rw [HYs.out]; exact HLt.out) (by rw [HYs.out, HId.out]; exact he))
      rw [HYs.out] at HE
      obtain ⟨rfl, rfl⟩ := Prod.mk.inj he
      clear he
      go_upto_region 12 with (fail)
      have mc3 : wt.cell? ⟨g, 2, none⟩ = some (.map (some L.bc)) := S03.is.cells.2.2.1
      have c1 := (k9.cell 1).trans (show _ = some (.int .u64 sm) from rfl)
      have c2 := (k9.cell 2).trans (show _ = some (.int .i64 (m : Nat)) from rfl)
      obtain ⟨wz, hwz⟩ : ∃ wz, wz = wt := ⟨_, rfl⟩
      subst hwz
      refine wp_region_g 7 (by kernel_rfl) ?_
      refine AllC.head 0 7 (fuel := 1) (by first | exact fun h k => Grew.trans h k | exact fun h k => cls_grew h k) (grew_drew _) (by rfl) (by kernel_rfl) ?_
      simp only [List.take_succ_cons, List.take_zero, List.drop_succ_cons, List.drop_zero]
      repeat (first
        | (refine HeadC.val (by rfl) ?_
           apply Exists.intro
           refine ⟨fun w' hw' => ?_, ?_⟩
           · (have hf_0 := cell_up hw' mc3; have hf_1 := cell_up hw' c1; have hf_2 := cell_up hw' c2; (go_simp) <;> (try go_ints) <;> with_reducible rfl)
           try simp only [Act.put, List.setIfInBounds_toArray, List.set_cons_zero, List.set_cons_succ])
        | (refine HeadC.shut (by rfl) ?_
           try simp only [Act.put, List.setIfInBounds_toArray, List.set_cons_zero, List.set_cons_succ]))
      refine HeadC.nil ?_
      refine AllC.tail 7 (by rfl) (by kernel_rfl) ?_
      intro wt hwt
      simp only [List.drop_succ_cons, List.drop_zero]
      have hg10 : Grew wz wt := (grew_drew _).trans hwt
      have I10 := S03.is.of hg10
      refine wpList_store_id rfl (.tmp 90) (.tmp 92) (.tmp 93) rfl Try.underlying94 rfl I10.mc (by unfold maxLen; omega) (sm, (m : Int)) rfl hwf rfl ?_
      intro w11 hM11 hch11
      rw [← HM2.out] at hM11
      have hown10 := own_below hown9 hg10
      rw [← HM2.out] at hown10
      have hnP := HnP.out
      rw [updF_updF] at hnP
      rw [HM2.out] at hM11 hown10 hnP
      have S3 := RcvIs.setComp (ys := ys) I10 (by rw [HM2.out]; exact hown10) (by rw [HM2.out]; exact hnP) (by rw [HM2.out]; exact hM11) hch11
      have k11 := (k9.of hg10).ch hch11 (fun e => I10.mc.ne_blk (k9.of hg10) e.symm)
      have S04 := (S03.trans (Stp.grew S03.is hg10)).trans S3
      have hb11 : base ≤ w11.heap.size := by have := hg10.size; have := hch11.size; omega
      clear S03 S3 I10 hM11 hch11 hown9 hown10 hnP HnP k9 mc3 c1 c2 hwt hg10 hb9
      try simp only [Act.put, List.setIfInBounds_toArray, List.set_cons_zero, List.set_cons_succ]
      obtain ⟨gm, hgm⟩ : ∃ gm, L.am = some ⟨gm, 0, none⟩ := by
        have h1 := H0.out.miss
        unfold RcL.mv at h1
        rcases h1.2 with ⟨_, h⟩ | ⟨gm, _, _, h, _⟩
        · omega
        · injection h with h; exact ⟨gm, h⟩
      obtain ⟨he1, he2⟩ := del_erase r.miss (sm, (m : Int)) HMem.out
      have hmown := S04.is.miss
      have hmown2 : w11.ownsRow base 53 2 (.slice (some ⟨gm, 0, none⟩) r.miss.length L.cm) r.miss.length (idsC r.miss) := by
        have h1 := hmown
        unfold RcL.mv at h1
        simp only [hgm] at h1
        exact h1
      have HDel := delete_id gm (r.miss.erase (sm, (m : Int))).length L.cm base n r.miss w11 (by rw [he2]; exact hmown2) (by omega)
      rw [he2, HN.out, he1] at HDel
      have hn2 := HN.out
      have b4 : w11.cell? ⟨g, 4, none⟩ = some (.slice (some ⟨gm, 0, none⟩) r.miss.length L.cm) := by
        have h1 := S04.is.cells.2.2.2.2.1
        simp only [hgm] at h1
        exact h1
      rw [← hn2] at HDel
      have hwn : IntKind.i64.wrap ((n : Int) + 1) = (n : Int) + 1 := Go.IntWalk.i64_in _ (by omega)
      have hbl11 := S04.is.blk
      have HMs := Lib.hid he2
      have HGm := Lib.hid hgm
      clear he1 he2 hn2 hmown hgm
      have S4 := fun w12 h1 h2 => RcvIs.setMiss (w1 := w12) (ms := r.miss.erase (sm, (m : Int))) S04.is HGm.out (by show 0 < r.miss.length; omega) h1 h2
      have HS4 := Lib.hid S4
      have hgg : gm ≠ g := fun h => own_blk_ne hmown2 hbl11 (by decide) (congrArg some h)
      have hgk : gm ≠ gp := fun h => own_blk_ne hmown2 k11 (by decide) (congrArg some h)
      have hgpg : gp ≠ g := Blk.ne_ k11 hbl11 (by decide)
      generalize hes : (r.miss.erase (sm, (m : Int))).length = el at *
      have HEs := Lib.hid hes
      clear S4 hes hmown2
      go_wp2_with fail
      refine HDel.mono ?_
      rintro e w12 ⟨rfl, hown12, hch12⟩
      have S4 := HS4.out w12 hown12 hch12
      have S05 := S04.trans S4
      have hbl12 := hbl11.ch hch12 (fun h => hgg h.symm)
      have y4 := hbl12.frozen 4
      have b4' := (hbl12.cell 4).trans (show _ = some _ from rfl)
      have k14 := (k11.ch hch12 (fun h => hgk h.symm)).far (p := ⟨g, 4, none⟩) hgpg (.slice (some ⟨gm, 0, none⟩) el L.cm)
      have hb14 : base ≤ (w12.setCell ⟨g, 4, none⟩ (.slice (some ⟨gm, 0, none⟩) el L.cm)).heap.size := by have := hch12.size; simp; omega
      clear HDel hown12 hch12 S4 HS4 hbl11 hbl12 k11 S04 b4 hb11
      go_upto_region 14 with (fail)
      generalize w12.setCell ⟨g, 4, none⟩ (.slice (some ⟨gm, 0, none⟩) el L.cm) = w14 at *
      have b5 : w14.cell? ⟨g, 5, none⟩ = some (.slice L.ar r.recv.length L.cr) := S05.is.cells.2.2.2.2.2
      have hrv : w14.ownsRow base 53 2 (.slice L.ar r.recv.length L.cr) r.recv.length (idsC r.recv) := S05.is.recv
      have hb5 := S05.is.blk
      have c1 := (k14.cell 1).trans (show _ = some (.int .u64 sm) from rfl)
      have c2 := (k14.cell 2).trans (show _ = some (.int .i64 (m : Nat)) from rfl)
      have hnb := own_blk_ne hrv hb5 (by decide)
      have hnk := own_blk_ne hrv k14 (by decide)
      clear y4 b4'
      refine wp_region_cls (Ch (fun i => (Value.slice L.ar r.recv.length L.cr).ownBlock = some i) w14) 9 (by kernel_rfl) ?_
      have hc0 := (Ch.refl (fun i => (Value.slice L.ar r.recv.length L.cr).ownBlock = some i) w14).drew
      refine AllC.head 0 7 (fuel := 5) (by first | exact fun h k => Grew.trans h k | exact fun h k => cls_grew h k) (hc0) (by rfl) (by kernel_rfl) ?_
      simp only [List.take_succ_cons, List.take_zero, List.drop_succ_cons, List.drop_zero]
      repeat (first
        | (refine HeadC.val (by rfl) ?_
           apply Exists.intro
           refine ⟨fun w' hw' => ?_, ?_⟩
           · (have hf_0 := hw'.cell b5 hnb; have hf_1 := hw'.cell c1 hnk; have hf_2 := hw'.cell c2 hnk; (go_simp) <;> (try go_ints) <;> with_reducible rfl)
           try simp only [Act.put, List.setIfInBounds_toArray, List.set_cons_zero, List.set_cons_succ])
        | (refine HeadC.shut (by rfl) ?_
           try simp only [Act.put, List.setIfInBounds_toArray, List.set_cons_zero, List.set_cons_succ]))
      refine HeadC.nil ?_
      refine AllC.one 7 (by kernel_rfl) rfl ?_
      intro wg hg K hK
      go_simp
      have hg0 := (grew_drew w14).trans hg
      have hga := grew_alloc wg (.cells #[.int .u64 sm, .int .i64 (m : Nat)] 53)
      have hgA : Grew w14 (wg.alloc (.cells #[.int .u64 sm, .int .i64 (m : Nat)] 53)) := hg0.trans hga
      have hown7 := own_below hrv hgA
      have hrow7 := Blk.row (Blk.new wg 53 #[.int .u64 sm, .int .i64 (m : Nat)])
      refine hK.out _ _ (Ch.of_below hgA) ?_
      clear hK K hg hc0 hga hg0
      try simp only [Act.put, List.setIfInBounds_toArray, List.set_cons_zero, List.set_cons_succ]
      have hsz7 := hgA.size
      generalize wg.alloc (.cells #[.int .u64 sm, .int .i64 (m : Nat)] 53) = w15 at *
      generalize wg.heap.size = g7 at *
      clear wg
      refine AllC.one 8 (by kernel_rfl) rfl ?_
      intro wg hg K hK
      have hgA8 := hgA.trans hg
      have hown8 := own_below hown7 hg
      have hrow8 := hrow7.up hg (Nat.le_refl _)
      refine step_append_row rfl (.tmp 109) (.tmp 112) rfl base elem_id (by rfl) hown8 _ (by rfl) (by rfl) hrow8 (by simp [Value.oneCell']) (by unfold maxLen; omega) (by omega) (by have := hgA8.size; omega) ?_
      intro A16 c16 w16 hown16 hg16 hor16
      refine hK.out _ _ ((Ch.of_below hgA8).trans (Ch.of_own hg16)) ?_
      clear hK K hrow8 hown8 hrow7 hown7
      try simp only [Act.put, List.setIfInBounds_toArray, List.set_cons_zero, List.set_cons_succ]
      refine AllC.tail 9 (by rfl) (by kernel_rfl) ?_
      intro wt hwt
      simp only [List.drop_succ_cons, List.drop_zero]
      have S5 := RcvIs.setRecv S05.is (x := (sm, (m : Int))) hgA8 (own_below hown16 hwt) ((Ch.of_own hg16).next hwt) hor16
      have S06 := S05.trans S5
      have hbw := (hb5.ch ((Ch.of_below hgA8).trans (Ch.of_own hg16)) hnb).of hwt
      have y5 := hbw.frozen 5
      have b5' := (hbw.cell 5).trans (show _ = some _ from rfl)
      have HS := Lib.hid S06
      clear S05 S5 S06 hbw hg16 hown16 hor16 hwt hgA hgA8 hg hb5 b5 hrv k14 c1 c2
      go_wp2_with fail
      go_ret
      exact ⟨_, by rw [HE.out]; rfl, by rw [HE.out]; exact HS.out.more (by omega)⟩
end
end Go.Proofs.Ytpoiejgoongllaa
