/-
  transfer.Receive.
-/
import Derived.Test.YtpoiejgoongllaaRecv37a
import Derived.Deep.DeepCutAuto
namespace Go.Proofs.Ytpoiejgoongllaa
section
set_option linter.unusedVariables false
set_option linter.unusedSimpArgs false
set_option linter.unnecessarySimpa false
open Go.RowKit
attribute [local go_sem ↓] Go.wp_at_zero Go.wp_at_succ

def rcv0 (n : Nat) (ids : List IdZ) : Rcv := ⟨n, ids, fun _ => none, fun _ => [], [], []⟩
def rcl0 (A : Option Addr) (c bc bp : Nat) : RcL := ⟨A, c, bc, bp, none, 0, none, 0, fun _ => (none, 0), fun _ => (none, 0)⟩
theorem RcvIs.make {w : World} {base g n bc bp c : Nat} {A : Option Addr} {ids : List IdZ} (hB : Blk w g 98 #[.int .i64 n, .slice A ids.length c, .map (some bc), .map (some bp), .slice none 0 0, .slice none 0 0])
    (ho : w.ownsRow base 53 2 (.slice A ids.length c) ids.length (idsC ids)) (mc : MapIs w bc 0 (fun _ => none)) (mp : MapIs w bp 0 (fun _ => none)) (hne : bc ≠ bp) (hg : base ≤ g) (h1 : base ≤ bc) (h2 : base ≤ bp) :
    RcvIs w base g 0 (rcl0 A c bc bp) (rcv0 n ids) where
  blk := hB
  ids := ho
  mc := mc
  mp := mp.congr (fun x => by unfold prefM rcv0; simp)
  miss := World.ownsRow_nil _ _ _ _
  recv := World.ownsRow_nil _ _ _ _
  comp := fun x zs hx => by cases hx
  pref := fun x hx => absurd rfl hx
  bne := hne
  d1 := fun k hk => by cases hk
  d2 := fun k hk => ⟨fun h => (by cases h), fun h => (by cases h)⟩
  d3 := fun x y hxy hx => absurd rfl hx
  d4 := fun x y zs hx => by cases hx
  lo := ⟨hg, h1, h2⟩
theorem run_makeMap_0 {P : Program} {t k e : TypeId} (ht : P.underlying t = some (.map k e)) (w : World) : (Instr.makeMap t none).run P w = .ok (.map (some w.heap.size)) (w.alloc (.map #[] 0)) := by
  simp [Instr.makeMap, run_underlying ht, Result.andThen]
def RecvRes (n : Nat) (ids : List IdZ) (cs : List ChZ) (w : World) (e : Ending) (w' : World) : Prop :=
  Grew w w' ∧ if chkM (n : Int) ids = 0 then ∃ g L, e = .returned (.tuple #[.pointer (some ⟨g, 0, none⟩), .int .i64 0]) ∧ RcvIs w' w.heap.size g cs.length L (recvR n ids cs) else e = .returned (.tuple #[.pointer none, .int .i64 (chkM (n : Int) ids)])

theorem RcvIs.lower {w : World} {base base' g M : Nat} {L : RcL} {r : Rcv} (h : RcvIs w base g M L r) (hb : base' ≤ base) : RcvIs w base' g M L r where
  blk := h.blk
  ids := own_mono h.ids hb
  mc := h.mc
  mp := h.mp
  miss := own_mono h.miss hb
  recv := own_mono h.recv hb
  comp := fun x zs hx => own_mono (h.comp x zs hx) hb
  pref := fun x hx => own_mono (h.pref x hx) hb
  bne := h.bne
  d1 := h.d1
  d2 := h.d2
  d3 := h.d3
  d4 := h.d4
  lo := by have := h.lo; omega
theorem MapIs.getW {w : World} {b n : Nat} {ms : List IdZ} {cs : List ChZ} (h : MapIs w b n (wantM ms cs)) {a c : Int} (wx : WfI (a, c)) (v : Bool) (hv : (wantM ms cs (a, c)).getD (.bool false) = .bool v) :
    (Instr.lookup 104 (.map (some b)) (.agg #[.int .u64 a, .int .i64 c]) false).run Try.prog w = .ok (.bool v) w := by
  have := h.get wx Try.underlying104 (z := .bool false) (by kernel_rfl)
  rw [hv] at this
  exact this
theorem want_no {ms : List IdZ} {cs : List ChZ} {x : IdZ} (h : ¬ (x ∈ ms ∧ haveC cs x = none)) : (wantM ms cs x).getD (.bool false) = .bool false := by
  unfold wantM
  by_cases hm : x ∈ ms
  · rw [if_pos hm]
    cases hc : haveC cs x with
    | none => exact absurd ⟨hm, hc⟩ h
    | some z => rfl
  · rw [if_neg hm]; rfl
theorem want_yes {ms : List IdZ} {cs : List ChZ} {x : IdZ} (h : x ∈ ms) (hc : haveC cs x = none) : (wantM ms cs x).getD (.bool false) = .bool true := by
  unfold wantM; rw [if_pos h, hc]; rfl
theorem same_no {ms : List IdZ} {cs : List ChZ} {k : Nat} (hk : k < cs.length) (h : ¬ (cs[k].id ∈ ms ∧ haveC (cs.take k) cs[k].id = none ∧ idOf cs[k].p.zs = cs[k].id)) : ∀ x, x ∈ ms → haveC (cs.take (k + 1)) x = haveC (cs.take k) x := by
  intro x hx
  rw [haveC_snoc cs k hk x]
  by_cases e : cs[k].id = x ∧ idOf cs[k].p.zs = x
  · obtain ⟨e1, e2⟩ := e
    subst e1
    cases hc : haveC (cs.take k) cs[k].id with
    | none => exact absurd ⟨hx, hc, e2⟩ h
    | some z => rfl
  · rw [if_neg e]; simp
theorem compH_no {ms : List IdZ} {cs : List ChZ} {k : Nat} (hk : k < cs.length) (h : ¬ (cs[k].id ∈ ms ∧ haveC (cs.take k) cs[k].id = none ∧ idOf cs[k].p.zs = cs[k].id)) : compH ms (cs.take (k + 1)) = compH ms (cs.take k) ∧ ∀ x, wantM ms (cs.take k) x = wantM ms (cs.take (k + 1)) x := by
  have hs := same_no hk h
  refine ⟨funext fun x => ?_, fun x => ?_⟩
  · unfold compH
    by_cases hx : x ∈ ms
    · rw [if_pos hx, if_pos hx, hs x hx]
    · rw [if_neg hx, if_neg hx]
  · unfold wantM
    by_cases hx : x ∈ ms
    · rw [if_pos hx, if_pos hx, hs x hx]
    · rw [if_neg hx, if_neg hx]
theorem compH_yes {ms : List IdZ} {cs : List ChZ} {k : Nat} (hk : k < cs.length) (h1 : cs[k].id ∈ ms) (h2 : haveC (cs.take k) cs[k].id = none) (h3 : idOf cs[k].p.zs = cs[k].id) :
    compH ms (cs.take (k + 1)) = updF (compH ms (cs.take k)) cs[k].id (some cs[k].p.zs) ∧ ∀ x, updM (wantM ms (cs.take k)) cs[k].id (.bool false) x = wantM ms (cs.take (k + 1)) x := by
  have hs : ∀ x, haveC (cs.take (k + 1)) x = if x = cs[k].id then some cs[k].p.zs else haveC (cs.take k) x := by
    intro x
    rw [haveC_snoc cs k hk x]
    by_cases e : x = cs[k].id
    · rw [if_pos e, e, h2, if_pos ⟨rfl, h3⟩]; rfl
    · rw [if_neg e, if_neg (fun h => e h.1.symm)]; simp
  refine ⟨funext fun x => ?_, fun x => ?_⟩
  · unfold compH updF
    by_cases e : x = cs[k].id
    · rw [if_pos e, e, if_pos h1, hs, if_pos rfl]
    · rw [if_neg e, hs x, if_neg e]
  · unfold wantM updM
    by_cases e : x = cs[k].id
    · rw [if_pos e, e, if_pos h1, hs, if_pos rfl]; rfl
    · rw [if_neg e, hs x, if_neg e]

set_option maxRecDepth 100000 in
set_option maxHeartbeats 8000000 in
theorem receive37_any (n : Nat) (Ai : Option Addr) (ci : Nat) (ids : List IdZ) (Ac : Option Addr) (cc : Nat) (cs : List ChZ) (w : World) (hr : Row w w.heap.size Ai (idsC ids)) (hwf : ∀ x ∈ ids, WfI x) (hm : ids.length ≤ 9223372036854775807)
    (hrc : Row w w.heap.size Ac (chsC cs)) (hin : ChsIn w cs) (hcw : ∀ c ∈ cs, WfI c.id ∧ Byt c.p.zs) (hmc : cs.length ≤ 70368744177664) :
    Calls Try.prog 21 #[.agg #[.int .i64 n, .slice Ai ids.length ci], .slice Ac cs.length cc] w (RecvRes n ids cs w) := by
  have g0 := grew_alloc w (.cells #[.int .i64 n, .slice Ai ids.length ci] 33)
  have hC := Blk.new w 33 #[.int .i64 n, .slice Ai ids.length ci]
  have hr0 := hr.up g0 (Nat.le_refl _)
  have c0 := (hC.cell 0).trans (show _ = some (.int .i64 n) from rfl)
  have c1 := (hC.cell 1).trans (show _ = some (.slice Ai ids.length ci) from rfl)
  have HM := Lib.hid (missing25_any n Ai ci w.heap.size ids none 0 [] _ hr0 Row.nil hwf (fun x hx => by cases hx) g0.size hm (by simp))
  have HWf := Lib.hid hwf
  have HCw := Lib.hid hcw
  have HRC := Lib.hid (fun W (hg : Grew w W) => (hrc.up hg (Nat.le_refl _)))
  have HIN := Lib.hid (fun W (hg : Grew w W) => hin.up hg)
  have HR := Lib.hid (fun W (hg : Grew w W) => (hr.up hg (Nat.le_refl _)))
  clear hwf hcw hrc hin hr hr0
  simp only [List.length_nil] at HM
  have hgb0 : w.heap.size < (w.alloc (.cells #[.int .i64 n, .slice Ai ids.length ci] 33)).heap.size := hC.lt
  go_enter Try.func21, Try.ntmps21
  go_wp2_with fail
  generalize w.alloc (.cells #[.int .i64 n, .slice Ai ids.length ci] 33) = w1 at *
  refine HM.out.mono ?_
  clear HM
  rintro e w2 ⟨Am, cm, rfl, hownM, hb⟩
  replace hC := hC.of hb
  replace c0 := cell_up hb c0
  replace c1 := cell_up hb c1
  have hg2 : Grew w w2 := g0.trans hb
  have hs12 := hb.size
  clear hb g0
  by_cases hz : chkM (n : Int) ids = 0
  case neg =>
    have hne : (chkM (n : Int) ids != 0) = true := by rw [bne_iff_ne]; exact hz
    have HZ := Lib.hid hz
    clear hz
    generalize hch : chkM (n : Int) ids = er at *
    have HCh := Lib.hid hch
    clear hch
    go_wp2_with fail
    go_ret2
    exact ⟨hg2, by rw [if_neg (by rw [HCh.out]; exact HZ.out), HCh.out]; rfl⟩
  have HZ := Lib.hid hz
  have hl1 := (chkM_zero hz).1
  have hmis : misL (n : Int) [] ids = missL [] ids := by unfold misL; rw [if_pos hz]
  rw [hmis] at hownM ⊢
  rw [hz]
  clear hz hmis
  have hml := missL_len [] ids ids.length (Nat.le_refl _)
  rw [List.take_length] at hml
  have HMem := Lib.hid (mem_missL ids)
  have HNd := Lib.hid (nodup_missL ids)
  have hrE : recvR n ids cs = { rcv0 n ids with comp := compH (missL [] ids) cs, miss := lackH cs (missL [] ids) } := rfl
  have HRE := Lib.hid hrE
  clear hrE
  generalize missL [] ids = ms at *
  have HCl := Lib.hid (fun W (hg : Grew w2 W) => cloneI_any Ai ci W.heap.size ids W ((HR.out W (hg2.trans hg)).more (hg2.trans hg).size) (Nat.le_refl _) (by omega))
  have hmk := fun W => run_makeMap_0 Try.underlying94 W
  go_upto_region 4 with (fail)
  go_cut [8] (fun s8 wx => ∃ (gx : Nat) (L0 : RcL), s8 = .pointer (some ⟨gx, 0, none⟩) ∧ RcvIs wx w2.heap.size gx 0 L0 (rcv0 n ids) ∧ Grew w2 wx)
  case first =>
    refine wp_region_g 9 (by kernel_rfl) ?_
    have hgW : Grew w2 w2.drew := grew_drew _
    refine AllC.head 0 4 (fuel := 7) (by first | exact fun h k => Grew.trans h k | exact fun h k => cls_grew h k) (hgW) (by rfl) (by kernel_rfl) ?_
    simp only [List.take_succ_cons, List.take_zero, List.drop_succ_cons, List.drop_zero]
    repeat (first
      | (refine HeadC.val (by rfl) ?_
         apply Exists.intro
         refine ⟨fun w' hw' => ?_, ?_⟩
         · (have hf_0 := cell_up hw' c0; have hf_1 := cell_up hw' c1; (go_simp) <;> (try go_ints) <;> with_reducible rfl)
         try simp only [Act.put, List.setIfInBounds_toArray, List.set_cons_zero, List.set_cons_succ])
      | (refine HeadC.shut (by rfl) ?_
         try simp only [Act.put, List.setIfInBounds_toArray, List.set_cons_zero, List.set_cons_succ]))
    refine HeadC.nil ?_
    refine AllC.both [4, 6, 7] (by kernel_rfl) (by simp) ?_
    intro wg hg i hi
    simp only [List.mem_cons, List.not_mem_nil, or_false] at hi
    rcases hi with rfl | rfl | rfl
    · refine ⟨_, rfl, fun K hK => ?_⟩
      have hgg := hgW.trans hg
      go_simp
      refine (HCl.out wg hgg).mono ?_
      rintro e wc ⟨A, c, rfl, hownI, hbc⟩
      replace hgW := hgg.trans hbc
      replace hownI := own_mono hownI (base' := w2.heap.size) hgg.size
      refine hK.out _ _ hgW ?_
      clear hK K hg hgg hbc
      try simp only [Act.put, List.setIfInBounds_toArray, List.set_cons_zero, List.set_cons_succ]
      refine AllC.head 5 1 (fuel := 5) (by first | exact fun h k => Grew.trans h k | exact fun h k => cls_grew h k) (hgW) (by rfl) (by kernel_rfl) ?_
      simp only [List.take_succ_cons, List.take_zero, List.drop_succ_cons, List.drop_zero]
      repeat (first
        | (refine HeadC.val (by rfl) ?_
           apply Exists.intro
           refine ⟨fun w' hw' => ?_, ?_⟩
           · ((go_simp) <;> (try go_ints) <;> with_reducible rfl)
           try simp only [Act.put, List.setIfInBounds_toArray, List.set_cons_zero, List.set_cons_succ])
        | (refine HeadC.shut (by rfl) ?_
           try simp only [Act.put, List.setIfInBounds_toArray, List.set_cons_zero, List.set_cons_succ]))
      refine HeadC.nil ?_
      refine AllC.both [6, 7] (by kernel_rfl) (by simp) ?_
      intro wg hg i hi
      simp only [List.mem_cons, List.not_mem_nil, or_false] at hi
      rcases hi with rfl | rfl
      · refine ⟨_, rfl, fun K hK => ?_⟩
        have hgg := hgW.trans hg
        replace hownI := own_below hownI (hg)
        go_simp
        have hga := grew_alloc wg (.map #[] 0)
        replace hownI := own_below hownI (hga)
        have hmC := MapIs.made wg
        have lbc : w2.heap.size ≤ wg.heap.size := hgg.size
        replace hgW : Grew w2 (wg.alloc (.map #[] 0)) := hgg.trans hga
        refine hK.out _ _ hgW ?_
        clear hK K hg hgg hga
        try simp only [Act.put, List.setIfInBounds_toArray, List.set_cons_zero, List.set_cons_succ]
        obtain ⟨bc, hbc⟩ : ∃ bc, bc = wg.heap.size := ⟨_, rfl⟩
        generalize hwm : wg.alloc (.map #[] 0) = wm at *
        generalize wg.heap.size = bc' at *
        subst hbc
        clear hwm
        refine AllC.one 7 (by kernel_rfl) rfl ?_
        intro wg hg K hK
        have hgg := hgW.trans hg
        replace hownI := own_below hownI (hg)
        replace hmC := hmC.of (hg)
        have l2bp := hmC.lt
        go_simp
        have hga := grew_alloc wg (.map #[] 0)
        replace hownI := own_below hownI (hga)
        replace hmC := hmC.of (hga)
        have hmP := MapIs.made wg
        have lbp : w2.heap.size ≤ wg.heap.size := hgg.size
        replace hgW : Grew w2 (wg.alloc (.map #[] 0)) := hgg.trans hga
        refine hK.out _ _ hgW ?_
        clear hK K hg hgg hga
        try simp only [Act.put, List.setIfInBounds_toArray, List.set_cons_zero, List.set_cons_succ]
        obtain ⟨bp, hbp⟩ : ∃ bp, bp = wg.heap.size := ⟨_, rfl⟩
        generalize hwm : wg.alloc (.map #[] 0) = wm at *
        generalize wg.heap.size = bp' at *
        subst hbp
        clear hwm
        refine AllC.head 8 1 (fuel := 2) (by first | exact fun h k => Grew.trans h k | exact fun h k => cls_grew h k) (hgW) (by rfl) (by kernel_rfl) ?_
        simp only [List.take_succ_cons, List.take_zero, List.drop_succ_cons, List.drop_zero]
        repeat (first
          | (refine HeadC.val (by rfl) ?_
             apply Exists.intro
             refine ⟨fun w' hw' => ?_, ?_⟩
             · ((go_simp) <;> (try go_ints) <;> with_reducible rfl)
             try simp only [Act.put, List.setIfInBounds_toArray, List.set_cons_zero, List.set_cons_succ])
          | (refine HeadC.shut (by rfl) ?_
             try simp only [Act.put, List.setIfInBounds_toArray, List.set_cons_zero, List.set_cons_succ]))
        refine HeadC.nil ?_
        refine AllC.tail 9 (by rfl) (by kernel_rfl) ?_
        intro wt hwt
        simp only [List.drop_succ_cons, List.drop_zero]
        replace hownI := own_below hownI (hwt)
        replace hmC := hmC.of (hwt)
        replace hmP := hmP.of (hwt)
        replace hgW := hgW.trans hwt
        clear hwt
        have hga := grew_alloc wt (.cells #[.int .i64 (n : Nat), .slice A ids.length c, .map (some bc), .map (some bp), .slice none 0 0, .slice none 0 0] 98)
        have hB := Blk.new wt 98 #[.int .i64 (n : Nat), .slice A ids.length c, .map (some bc), .map (some bp), .slice none 0 0, .slice none 0 0]
        replace hownI := own_below hownI (hga)
        replace hmC := hmC.of (hga)
        replace hmP := hmP.of (hga)
        have hgl := hgW.size
        replace hgW := hgW.trans hga
        go_wp2_with fail
        go_meet
        exact ⟨_, _, rfl, RcvIs.make hB hownI hmC hmP (by omega) hgl lbc lbp, hgW⟩
      · refine ⟨_, rfl, fun K hK => ?_⟩
        have hgg := hgW.trans hg
        replace hownI := own_below hownI (hg)
        go_simp
        have hga := grew_alloc wg (.map #[] 0)
        replace hownI := own_below hownI (hga)
        have hmP := MapIs.made wg
        have lbp : w2.heap.size ≤ wg.heap.size := hgg.size
        replace hgW : Grew w2 (wg.alloc (.map #[] 0)) := hgg.trans hga
        refine hK.out _ _ hgW ?_
        clear hK K hg hgg hga
        try simp only [Act.put, List.setIfInBounds_toArray, List.set_cons_zero, List.set_cons_succ]
        obtain ⟨bp, hbp⟩ : ∃ bp, bp = wg.heap.size := ⟨_, rfl⟩
        generalize hwm : wg.alloc (.map #[] 0) = wm at *
        generalize wg.heap.size = bp' at *
        subst hbp
        clear hwm
        refine AllC.one 6 (by kernel_rfl) rfl ?_
        intro wg hg K hK
        have hgg := hgW.trans hg
        replace hownI := own_below hownI (hg)
        replace hmP := hmP.of (hg)
        have l2bc := hmP.lt
        go_simp
        have hga := grew_alloc wg (.map #[] 0)
        replace hownI := own_below hownI (hga)
        replace hmP := hmP.of (hga)
        have hmC := MapIs.made wg
        have lbc : w2.heap.size ≤ wg.heap.size := hgg.size
        replace hgW : Grew w2 (wg.alloc (.map #[] 0)) := hgg.trans hga
        refine hK.out _ _ hgW ?_
        clear hK K hg hgg hga
        try simp only [Act.put, List.setIfInBounds_toArray, List.set_cons_zero, List.set_cons_succ]
        obtain ⟨bc, hbc⟩ : ∃ bc, bc = wg.heap.size := ⟨_, rfl⟩
        generalize hwm : wg.alloc (.map #[] 0) = wm at *
        generalize wg.heap.size = bc' at *
        subst hbc
        clear hwm
        refine AllC.head 8 1 (fuel := 2) (by first | exact fun h k => Grew.trans h k | exact fun h k => cls_grew h k) (hgW) (by rfl) (by kernel_rfl) ?_
        simp only [List.take_succ_cons, List.take_zero, List.drop_succ_cons, List.drop_zero]
        repeat (first
          | (refine HeadC.val (by rfl) ?_
             apply Exists.intro
             refine ⟨fun w' hw' => ?_, ?_⟩
             · ((go_simp) <;> (try go_ints) <;> with_reducible rfl)
             try simp only [Act.put, List.setIfInBounds_toArray, List.set_cons_zero, List.set_cons_succ])
          | (refine HeadC.shut (by rfl) ?_
             try simp only [Act.put, List.setIfInBounds_toArray, List.set_cons_zero, List.set_cons_succ]))
        refine HeadC.nil ?_
        refine AllC.tail 9 (by rfl) (by kernel_rfl) ?_
        intro wt hwt
        simp only [List.drop_succ_cons, List.drop_zero]
        replace hownI := own_below hownI (hwt)
        replace hmP := hmP.of (hwt)
        replace hmC := hmC.of (hwt)
        replace hgW := hgW.trans hwt
        clear hwt
        have hga := grew_alloc wt (.cells #[.int .i64 (n : Nat), .slice A ids.length c, .map (some bc), .map (some bp), .slice none 0 0, .slice none 0 0] 98)
        have hB := Blk.new wt 98 #[.int .i64 (n : Nat), .slice A ids.length c, .map (some bc), .map (some bp), .slice none 0 0, .slice none 0 0]
        replace hownI := own_below hownI (hga)
        replace hmP := hmP.of (hga)
        replace hmC := hmC.of (hga)
        have hgl := hgW.size
        replace hgW := hgW.trans hga
        go_wp2_with fail
        go_meet
        exact ⟨_, _, rfl, RcvIs.make hB hownI hmC hmP (by omega) hgl lbc lbp, hgW⟩
    · refine ⟨_, rfl, fun K hK => ?_⟩
      have hgg := hgW.trans hg
      go_simp
      have hga := grew_alloc wg (.map #[] 0)
      have hmC := MapIs.made wg
      have lbc : w2.heap.size ≤ wg.heap.size := hgg.size
      replace hgW : Grew w2 (wg.alloc (.map #[] 0)) := hgg.trans hga
      refine hK.out _ _ hgW ?_
      clear hK K hg hgg hga
      try simp only [Act.put, List.setIfInBounds_toArray, List.set_cons_zero, List.set_cons_succ]
      obtain ⟨bc, hbc⟩ : ∃ bc, bc = wg.heap.size := ⟨_, rfl⟩
      generalize hwm : wg.alloc (.map #[] 0) = wm at *
      generalize wg.heap.size = bc' at *
      subst hbc
      clear hwm
      refine AllC.both [4, 7] (by kernel_rfl) (by simp) ?_
      intro wg hg i hi
      simp only [List.mem_cons, List.not_mem_nil, or_false] at hi
      rcases hi with rfl | rfl
      · refine ⟨_, rfl, fun K hK => ?_⟩
        have hgg := hgW.trans hg
        replace hmC := hmC.of (hg)
        go_simp
        refine (HCl.out wg hgg).mono ?_
        rintro e wc ⟨A, c, rfl, hownI, hbc⟩
        replace hgW := hgg.trans hbc
        replace hmC := hmC.of (hbc)
        replace hownI := own_mono hownI (base' := w2.heap.size) hgg.size
        refine hK.out _ _ hgW ?_
        clear hK K hg hgg hbc
        try simp only [Act.put, List.setIfInBounds_toArray, List.set_cons_zero, List.set_cons_succ]
        refine AllC.head 5 1 (fuel := 4) (by first | exact fun h k => Grew.trans h k | exact fun h k => cls_grew h k) (hgW) (by rfl) (by kernel_rfl) ?_
        simp only [List.take_succ_cons, List.take_zero, List.drop_succ_cons, List.drop_zero]
        repeat (first
          | (refine HeadC.val (by rfl) ?_
             apply Exists.intro
             refine ⟨fun w' hw' => ?_, ?_⟩
             · ((go_simp) <;> (try go_ints) <;> with_reducible rfl)
             try simp only [Act.put, List.setIfInBounds_toArray, List.set_cons_zero, List.set_cons_succ])
          | (refine HeadC.shut (by rfl) ?_
             try simp only [Act.put, List.setIfInBounds_toArray, List.set_cons_zero, List.set_cons_succ]))
        refine HeadC.nil ?_
        refine AllC.one 7 (by kernel_rfl) rfl ?_
        intro wg hg K hK
        have hgg := hgW.trans hg
        replace hmC := hmC.of (hg)
        replace hownI := own_below hownI (hg)
        have l2bp := hmC.lt
        go_simp
        have hga := grew_alloc wg (.map #[] 0)
        replace hmC := hmC.of (hga)
        replace hownI := own_below hownI (hga)
        have hmP := MapIs.made wg
        have lbp : w2.heap.size ≤ wg.heap.size := hgg.size
        replace hgW : Grew w2 (wg.alloc (.map #[] 0)) := hgg.trans hga
        refine hK.out _ _ hgW ?_
        clear hK K hg hgg hga
        try simp only [Act.put, List.setIfInBounds_toArray, List.set_cons_zero, List.set_cons_succ]
        obtain ⟨bp, hbp⟩ : ∃ bp, bp = wg.heap.size := ⟨_, rfl⟩
        generalize hwm : wg.alloc (.map #[] 0) = wm at *
        generalize wg.heap.size = bp' at *
        subst hbp
        clear hwm
        refine AllC.head 8 1 (fuel := 2) (by first | exact fun h k => Grew.trans h k | exact fun h k => cls_grew h k) (hgW) (by rfl) (by kernel_rfl) ?_
        simp only [List.take_succ_cons, List.take_zero, List.drop_succ_cons, List.drop_zero]
        repeat (first
          | (refine HeadC.val (by rfl) ?_
             apply Exists.intro
             refine ⟨fun w' hw' => ?_, ?_⟩
             · ((go_simp) <;> (try go_ints) <;> with_reducible rfl)
             try simp only [Act.put, List.setIfInBounds_toArray, List.set_cons_zero, List.set_cons_succ])
          | (refine HeadC.shut (by rfl) ?_
             try simp only [Act.put, List.setIfInBounds_toArray, List.set_cons_zero, List.set_cons_succ]))
        refine HeadC.nil ?_
        refine AllC.tail 9 (by rfl) (by kernel_rfl) ?_
        intro wt hwt
        simp only [List.drop_succ_cons, List.drop_zero]
        replace hmC := hmC.of (hwt)
        replace hownI := own_below hownI (hwt)
        replace hmP := hmP.of (hwt)
        replace hgW := hgW.trans hwt
        clear hwt
        have hga := grew_alloc wt (.cells #[.int .i64 (n : Nat), .slice A ids.length c, .map (some bc), .map (some bp), .slice none 0 0, .slice none 0 0] 98)
        have hB := Blk.new wt 98 #[.int .i64 (n : Nat), .slice A ids.length c, .map (some bc), .map (some bp), .slice none 0 0, .slice none 0 0]
        replace hmC := hmC.of (hga)
        replace hownI := own_below hownI (hga)
        replace hmP := hmP.of (hga)
        have hgl := hgW.size
        replace hgW := hgW.trans hga
        go_wp2_with fail
        go_meet
        exact ⟨_, _, rfl, RcvIs.make hB hownI hmC hmP (by omega) hgl lbc lbp, hgW⟩
      · refine ⟨_, rfl, fun K hK => ?_⟩
        have hgg := hgW.trans hg
        replace hmC := hmC.of (hg)
        have l2bp := hmC.lt
        go_simp
        have hga := grew_alloc wg (.map #[] 0)
        replace hmC := hmC.of (hga)
        have hmP := MapIs.made wg
        have lbp : w2.heap.size ≤ wg.heap.size := hgg.size
        replace hgW : Grew w2 (wg.alloc (.map #[] 0)) := hgg.trans hga
        refine hK.out _ _ hgW ?_
        clear hK K hg hgg hga
        try simp only [Act.put, List.setIfInBounds_toArray, List.set_cons_zero, List.set_cons_succ]
        obtain ⟨bp, hbp⟩ : ∃ bp, bp = wg.heap.size := ⟨_, rfl⟩
        generalize hwm : wg.alloc (.map #[] 0) = wm at *
        generalize wg.heap.size = bp' at *
        subst hbp
        clear hwm
        refine AllC.one 4 (by kernel_rfl) rfl ?_
        intro wg hg K hK
        have hgg := hgW.trans hg
        replace hmC := hmC.of (hg)
        replace hmP := hmP.of (hg)
        go_simp
        refine (HCl.out wg hgg).mono ?_
        rintro e wc ⟨A, c, rfl, hownI, hbc⟩
        replace hgW := hgg.trans hbc
        replace hmC := hmC.of (hbc)
        replace hmP := hmP.of (hbc)
        replace hownI := own_mono hownI (base' := w2.heap.size) hgg.size
        refine hK.out _ _ hgW ?_
        clear hK K hg hgg hbc
        try simp only [Act.put, List.setIfInBounds_toArray, List.set_cons_zero, List.set_cons_succ]
        refine AllC.head 5 1 (fuel := 3) (by first | exact fun h k => Grew.trans h k | exact fun h k => cls_grew h k) (hgW) (by rfl) (by kernel_rfl) ?_
        simp only [List.take_succ_cons, List.take_zero, List.drop_succ_cons, List.drop_zero]
        repeat (first
          | (refine HeadC.val (by rfl) ?_
             apply Exists.intro
             refine ⟨fun w' hw' => ?_, ?_⟩
             · ((go_simp) <;> (try go_ints) <;> with_reducible rfl)
             try simp only [Act.put, List.setIfInBounds_toArray, List.set_cons_zero, List.set_cons_succ])
          | (refine HeadC.shut (by rfl) ?_
             try simp only [Act.put, List.setIfInBounds_toArray, List.set_cons_zero, List.set_cons_succ]))
        refine HeadC.nil ?_
        refine AllC.head 8 1 (fuel := 2) (by first | exact fun h k => Grew.trans h k | exact fun h k => cls_grew h k) (hgW) (by rfl) (by kernel_rfl) ?_
        simp only [List.take_succ_cons, List.take_zero, List.drop_succ_cons, List.drop_zero]
        repeat (first
          | (refine HeadC.val (by rfl) ?_
             apply Exists.intro
             refine ⟨fun w' hw' => ?_, ?_⟩
             · ((go_simp) <;> (try go_ints) <;> with_reducible rfl)
             try simp only [Act.put, List.setIfInBounds_toArray, List.set_cons_zero, List.set_cons_succ])
          | (refine HeadC.shut (by rfl) ?_
             try simp only [Act.put, List.setIfInBounds_toArray, List.set_cons_zero, List.set_cons_succ]))
        refine HeadC.nil ?_
        refine AllC.tail 9 (by rfl) (by kernel_rfl) ?_
        intro wt hwt
        simp only [List.drop_succ_cons, List.drop_zero]
        replace hmC := hmC.of (hwt)
        replace hmP := hmP.of (hwt)
        replace hownI := own_below hownI (hwt)
        replace hgW := hgW.trans hwt
        clear hwt
        have hga := grew_alloc wt (.cells #[.int .i64 (n : Nat), .slice A ids.length c, .map (some bc), .map (some bp), .slice none 0 0, .slice none 0 0] 98)
        have hB := Blk.new wt 98 #[.int .i64 (n : Nat), .slice A ids.length c, .map (some bc), .map (some bp), .slice none 0 0, .slice none 0 0]
        replace hmC := hmC.of (hga)
        replace hmP := hmP.of (hga)
        replace hownI := own_below hownI (hga)
        have hgl := hgW.size
        replace hgW := hgW.trans hga
        go_wp2_with fail
        go_meet
        exact ⟨_, _, rfl, RcvIs.make hB hownI hmC hmP (by omega) hgl lbc lbp, hgW⟩
    · refine ⟨_, rfl, fun K hK => ?_⟩
      have hgg := hgW.trans hg
      go_simp
      have hga := grew_alloc wg (.map #[] 0)
      have hmP := MapIs.made wg
      have lbp : w2.heap.size ≤ wg.heap.size := hgg.size
      replace hgW : Grew w2 (wg.alloc (.map #[] 0)) := hgg.trans hga
      refine hK.out _ _ hgW ?_
      clear hK K hg hgg hga
      try simp only [Act.put, List.setIfInBounds_toArray, List.set_cons_zero, List.set_cons_succ]
      obtain ⟨bp, hbp⟩ : ∃ bp, bp = wg.heap.size := ⟨_, rfl⟩
      generalize hwm : wg.alloc (.map #[] 0) = wm at *
      generalize wg.heap.size = bp' at *
      subst hbp
      clear hwm
      refine AllC.both [4, 6] (by kernel_rfl) (by simp) ?_
      intro wg hg i hi
      simp only [List.mem_cons, List.not_mem_nil, or_false] at hi
      rcases hi with rfl | rfl
      · refine ⟨_, rfl, fun K hK => ?_⟩
        have hgg := hgW.trans hg
        replace hmP := hmP.of (hg)
        go_simp
        refine (HCl.out wg hgg).mono ?_
        rintro e wc ⟨A, c, rfl, hownI, hbc⟩
        replace hgW := hgg.trans hbc
        replace hmP := hmP.of (hbc)
        replace hownI := own_mono hownI (base' := w2.heap.size) hgg.size
        refine hK.out _ _ hgW ?_
        clear hK K hg hgg hbc
        try simp only [Act.put, List.setIfInBounds_toArray, List.set_cons_zero, List.set_cons_succ]
        refine AllC.head 5 1 (fuel := 4) (by first | exact fun h k => Grew.trans h k | exact fun h k => cls_grew h k) (hgW) (by rfl) (by kernel_rfl) ?_
        simp only [List.take_succ_cons, List.take_zero, List.drop_succ_cons, List.drop_zero]
        repeat (first
          | (refine HeadC.val (by rfl) ?_
             apply Exists.intro
             refine ⟨fun w' hw' => ?_, ?_⟩
             · ((go_simp) <;> (try go_ints) <;> with_reducible rfl)
             try simp only [Act.put, List.setIfInBounds_toArray, List.set_cons_zero, List.set_cons_succ])
          | (refine HeadC.shut (by rfl) ?_
             try simp only [Act.put, List.setIfInBounds_toArray, List.set_cons_zero, List.set_cons_succ]))
        refine HeadC.nil ?_
        refine AllC.one 6 (by kernel_rfl) rfl ?_
        intro wg hg K hK
        have hgg := hgW.trans hg
        replace hmP := hmP.of (hg)
        replace hownI := own_below hownI (hg)
        have l2bc := hmP.lt
        go_simp
        have hga := grew_alloc wg (.map #[] 0)
        replace hmP := hmP.of (hga)
        replace hownI := own_below hownI (hga)
        have hmC := MapIs.made wg
        have lbc : w2.heap.size ≤ wg.heap.size := hgg.size
        replace hgW : Grew w2 (wg.alloc (.map #[] 0)) := hgg.trans hga
        refine hK.out _ _ hgW ?_
        clear hK K hg hgg hga
        try simp only [Act.put, List.setIfInBounds_toArray, List.set_cons_zero, List.set_cons_succ]
        obtain ⟨bc, hbc⟩ : ∃ bc, bc = wg.heap.size := ⟨_, rfl⟩
        generalize hwm : wg.alloc (.map #[] 0) = wm at *
        generalize wg.heap.size = bc' at *
        subst hbc
        clear hwm
        refine AllC.head 8 1 (fuel := 2) (by first | exact fun h k => Grew.trans h k | exact fun h k => cls_grew h k) (hgW) (by rfl) (by kernel_rfl) ?_
        simp only [List.take_succ_cons, List.take_zero, List.drop_succ_cons, List.drop_zero]
        repeat (first
          | (refine HeadC.val (by rfl) ?_
             apply Exists.intro
             refine ⟨fun w' hw' => ?_, ?_⟩
             · ((go_simp) <;> (try go_ints) <;> with_reducible rfl)
             try simp only [Act.put, List.setIfInBounds_toArray, List.set_cons_zero, List.set_cons_succ])
          | (refine HeadC.shut (by rfl) ?_
             try simp only [Act.put, List.setIfInBounds_toArray, List.set_cons_zero, List.set_cons_succ]))
        refine HeadC.nil ?_
        refine AllC.tail 9 (by rfl) (by kernel_rfl) ?_
        intro wt hwt
        simp only [List.drop_succ_cons, List.drop_zero]
        replace hmP := hmP.of (hwt)
        replace hownI := own_below hownI (hwt)
        replace hmC := hmC.of (hwt)
        replace hgW := hgW.trans hwt
        clear hwt
        have hga := grew_alloc wt (.cells #[.int .i64 (n : Nat), .slice A ids.length c, .map (some bc), .map (some bp), .slice none 0 0, .slice none 0 0] 98)
        have hB := Blk.new wt 98 #[.int .i64 (n : Nat), .slice A ids.length c, .map (some bc), .map (some bp), .slice none 0 0, .slice none 0 0]
        replace hmP := hmP.of (hga)
        replace hownI := own_below hownI (hga)
        replace hmC := hmC.of (hga)
        have hgl := hgW.size
        replace hgW := hgW.trans hga
        go_wp2_with fail
        go_meet
        exact ⟨_, _, rfl, RcvIs.make hB hownI hmC hmP (by omega) hgl lbc lbp, hgW⟩
      · refine ⟨_, rfl, fun K hK => ?_⟩
        have hgg := hgW.trans hg
        replace hmP := hmP.of (hg)
        have l2bc := hmP.lt
        go_simp
        have hga := grew_alloc wg (.map #[] 0)
        replace hmP := hmP.of (hga)
        have hmC := MapIs.made wg
        have lbc : w2.heap.size ≤ wg.heap.size := hgg.size
        replace hgW : Grew w2 (wg.alloc (.map #[] 0)) := hgg.trans hga
        refine hK.out _ _ hgW ?_
        clear hK K hg hgg hga
        try simp only [Act.put, List.setIfInBounds_toArray, List.set_cons_zero, List.set_cons_succ]
        obtain ⟨bc, hbc⟩ : ∃ bc, bc = wg.heap.size := ⟨_, rfl⟩
        generalize hwm : wg.alloc (.map #[] 0) = wm at *
        generalize wg.heap.size = bc' at *
        subst hbc
        clear hwm
        refine AllC.one 4 (by kernel_rfl) rfl ?_
        intro wg hg K hK
        have hgg := hgW.trans hg
        replace hmP := hmP.of (hg)
        replace hmC := hmC.of (hg)
        go_simp
        refine (HCl.out wg hgg).mono ?_
        rintro e wc ⟨A, c, rfl, hownI, hbc⟩
        replace hgW := hgg.trans hbc
        replace hmP := hmP.of (hbc)
        replace hmC := hmC.of (hbc)
        replace hownI := own_mono hownI (base' := w2.heap.size) hgg.size
        refine hK.out _ _ hgW ?_
        clear hK K hg hgg hbc
        try simp only [Act.put, List.setIfInBounds_toArray, List.set_cons_zero, List.set_cons_succ]
        refine AllC.head 5 1 (fuel := 3) (by first | exact fun h k => Grew.trans h k | exact fun h k => cls_grew h k) (hgW) (by rfl) (by kernel_rfl) ?_
        simp only [List.take_succ_cons, List.take_zero, List.drop_succ_cons, List.drop_zero]
        repeat (first
          | (refine HeadC.val (by rfl) ?_
             apply Exists.intro
             refine ⟨fun w' hw' => ?_, ?_⟩
             · ((go_simp) <;> (try go_ints) <;> with_reducible rfl)
             try simp only [Act.put, List.setIfInBounds_toArray, List.set_cons_zero, List.set_cons_succ])
          | (refine HeadC.shut (by rfl) ?_
             try simp only [Act.put, List.setIfInBounds_toArray, List.set_cons_zero, List.set_cons_succ]))
        refine HeadC.nil ?_
        refine AllC.head 8 1 (fuel := 2) (by first | exact fun h k => Grew.trans h k | exact fun h k => cls_grew h k) (hgW) (by rfl) (by kernel_rfl) ?_
        simp only [List.take_succ_cons, List.take_zero, List.drop_succ_cons, List.drop_zero]
        repeat (first
          | (refine HeadC.val (by rfl) ?_
             apply Exists.intro
             refine ⟨fun w' hw' => ?_, ?_⟩
             · ((go_simp) <;> (try go_ints) <;> with_reducible rfl)
             try simp only [Act.put, List.setIfInBounds_toArray, List.set_cons_zero, List.set_cons_succ])
          | (refine HeadC.shut (by rfl) ?_
             try simp only [Act.put, List.setIfInBounds_toArray, List.set_cons_zero, List.set_cons_succ]))
        refine HeadC.nil ?_
        refine AllC.tail 9 (by rfl) (by kernel_rfl) ?_
        intro wt hwt
        simp only [List.drop_succ_cons, List.drop_zero]
        replace hmP := hmP.of (hwt)
        replace hmC := hmC.of (hwt)
        replace hownI := own_below hownI (hwt)
        replace hgW := hgW.trans hwt
        clear hwt
        have hga := grew_alloc wt (.cells #[.int .i64 (n : Nat), .slice A ids.length c, .map (some bc), .map (some bp), .slice none 0 0, .slice none 0 0] 98)
        have hB := Blk.new wt 98 #[.int .i64 (n : Nat), .slice A ids.length c, .map (some bc), .map (some bp), .slice none 0 0, .slice none 0 0]
        replace hmP := hmP.of (hga)
        replace hmC := hmC.of (hga)
        replace hownI := own_below hownI (hga)
        have hgl := hgW.size
        replace hgW := hgW.trans hga
        go_wp2_with fail
        go_meet
        exact ⟨_, _, rfl, RcvIs.make hB hownI hmC hmP (by omega) hgl lbc lbp, hgW⟩
  case rest =>
    obtain ⟨gx, L0, rfl, hI, hgW⟩ := hcut
    clear c0 c1 hC HR HCl
    have hs2 := hgW.size
    have hga := grew_alloc wc (.map #[] 0)
    have hMp := MapIs.made wc
    have hI5 := hI.of hga
    have hrowM := (own_row hownM).up (hgW.trans hga) (Nat.le_refl _)
    have HRowM := Lib.hid (own_row hownM)
    have hgc : L0.bc < wc.heap.size := hI.mc.lt
    have hgp : L0.bp < wc.heap.size := hI.mp.lt
    have hmk2 := fun W => run_makeMap_0 Try.underlying104 W
    have hb5 : Below w2.heap.size w2 (wc.alloc (.map #[] 0)) := hgW.trans hga
    clear hI hgW hownM hmk
    go_wp2_with fail
    clear hmk2
    generalize wc.alloc (.map #[] 0) = w3 at *
    generalize wc.heap.size = gw at *
    clear hga
    have hgwl : gw < w3.heap.size := hMp.lt
    go_loopw [37] (fun i wr => ∃ k : Nat, k ≤ ms.length ∧ i = .int .i64 k ∧ MapIs wr gw k (knM (ms.take k)) ∧ Ch (At gw) w3 wr) (fun i _ => ms.length - (intOf i).toNat)
    case atStart => exact ⟨0, Nat.zero_le _, rfl, hMp.congr (fun x => by unfold knM; simp), Ch.refl _ _⟩
    case round =>
      obtain ⟨k, hk, rfl, hM, hch⟩ := hrel
      have hws := hch.size
      by_cases hlt : k < ms.length
      · have hrr := hrowM.ch hch (by omega) (fun i hi => by have h' : i = gw := hi; omega)
        obtain ⟨ad, rfl, hbl, d0, d1⟩ := ids_at hrr hlt
        have hwf := HWf.out ms[k] ((HMem.out _).1 (List.getElem_mem hlt))
        have HK := Lib.hid (fun y => (knM_add (ms.take k) ms[k] y).trans (by rw [← List.take_succ_eq_append_getElem hlt]))
        have hga := grew_alloc wr (.cells #[.int .u64 ms[k].1, .int .i64 ms[k].2] 53)
        have hX := Blk.new wr 53 #[.int .u64 ms[k].1, .int .i64 ms[k].2]
        have hMa := hM.of hga
        have hcha := hch.next hga
        clear hM hch hrr hga
        go_wp2_with (at_mapUpdate; refine wpList_store_id rfl (.tmp 41) (.tmp 42) (.const (.bool true)) rfl Try.underlying104 rfl hMa (by unfold maxLen; omega) ms[k] rfl hwf rfl ?_; intro w6 hM6 hch6)
        go_roundw
        case rel => exact ⟨k + 1, by omega, by go_num, hM6.congr HK.out, hcha.trans hch6⟩
        case measure => simp [intOf]; omega
      · obtain rfl : k = ms.length := by omega
        rw [List.take_length] at hM
        have hIr := hI5.chMap hMp (by omega) (by omega) hch
        have hbr : Below w2.heap.size w2 wr := Below.trans (B := w2.heap.size) hb5 (hch.below hb5.size (fun i hi => by have h' : i = gw := hi; omega))
        have hM0 : MapIs wr gw (ms.length + 0) (wantM ms (cs.take 0)) := hM.congr (fun x => by unfold knM wantM haveC; simp)
        have hcomp0 : ({ rcv0 n ids with comp := compH ms (cs.take 0) } : Rcv) = rcv0 n ids := by
          unfold rcv0 compH haveC
          simp
        have HI0 := Lib.hid (show RcvIs wr w2.heap.size gx 0 L0 { rcv0 n ids with comp := compH ms (cs.take 0) } by rw [hcomp0]; exact hIr)
        clear hM hch hI5 hMp hb5 hrowM hIr hcomp0 hws
        go_wp2_with fail
        clear hlt
        obtain ⟨w4, hw4⟩ : ∃ w4, w4 = wr := ⟨_, rfl⟩
        subst hw4
        go_loopw [46] (fun i wx => ∃ (k : Nat) (L : RcL), k ≤ cs.length ∧ i = .int .i64 k ∧ RcvIs wx w2.heap.size gx k L { rcv0 n ids with comp := compH ms (cs.take k) } ∧ L.bc = L0.bc ∧ L.bp = L0.bp ∧ MapIs wx gw (ms.length + k) (wantM ms (cs.take k)) ∧ Below w2.heap.size w2 wx) (fun i _ => cs.length - (intOf i).toNat)
        case atStart => exact ⟨0, L0, Nat.zero_le _, rfl, HI0.out, rfl, rfl, hM0, hbr⟩
        case round =>
          clear hM0 hbr HI0
          obtain ⟨k, L, hk, rfl, hI, hLc, hLp, hW, hb⟩ := hrel
          have HLc := Lib.hid hLc
          have HLp := Lib.hid hLp
          clear hLc hLp
          by_cases hlt : k < cs.length
          · have hgw2 : Grew w _ := hg2.trans hb
            obtain ⟨ad, rfl, hbl, d0, d1, d2⟩ := chs_at (HRC.out _ hgw2) hlt
            have hci := HIN.out _ hgw2 _ (List.getElem_mem hlt)
            have hcw1 := HCw.out _ (List.getElem_mem hlt)
            have HNO := Lib.hid (fun h => compH_no (ms := ms) hlt h)
            have HYES := Lib.hid (fun h1 h2 h3 => compH_yes (ms := ms) hlt h1 h2 h3)
            generalize cs[k] = c at *
            obtain ⟨⟨j1, j2⟩, bA, bcp, zs⟩ := c
            simp only at d0 d1 d2 hci hcw1 HNO HYES
            obtain ⟨h1, h2, h3⟩ := hci
            obtain ⟨hwf1, hbz⟩ := hcw1
            have hga := grew_alloc wr (.cells #[.int .u64 j1, .int .i64 j2, .slice bA zs.length bcp] 64)
            have kC := Blk.new wr 64 #[.int .u64 j1, .int .i64 j2, .slice bA zs.length bcp]
            have hI5 := hI.of hga
            have hW5 := hW.of hga
            have hb5 : Below w2.heap.size w2 (wr.alloc (.cells #[.int .u64 j1, .int .i64 j2, .slice bA zs.length bcp] 64)) := Below.trans (B := w2.heap.size) hb (hga.mono hb.size)
            have hr5 := (h1.up hga (Nat.le_refl _)).more hga.size
            clear hga hI hW hb h1 hgw2
            go_upto_region 14 with (fail)
            clear d0 d1 d2
            generalize wr.alloc (.cells #[.int .u64 j1, .int .i64 j2, .slice bA zs.length bcp] 64) = w5 at *
            generalize wr.heap.size = gc at *
            have x0 := (kC.cell 0).trans (show _ = some (.int .u64 j1) from rfl)
            have x1 := (kC.cell 1).trans (show _ = some (.int .i64 j2) from rfl)
            have x2 := (kC.cell 2).trans (show _ = some (.slice bA zs.length bcp) from rfl)
            by_cases hwant : (j1, j2) ∈ ms ∧ haveC (cs.take k) (j1, j2) = none
            case neg =>
              have hv := want_no hwant
              have hno := HNO.out (fun h => hwant ⟨h.1, h.2.1⟩)
              have HN1 := Lib.hid hno.1
              have HN2 := Lib.hid hno.2
              clear hno
              clear hwant
              refine wp_region_g 21 (by kernel_rfl) ?_
              refine AllC.head 0 21 (fuel := 0) (by first | exact fun h k => Grew.trans h k | exact fun h k => cls_grew h k) (grew_drew _) (by rfl) (by kernel_rfl) ?_
              simp only [List.take_succ_cons, List.take_zero, List.drop_succ_cons, List.drop_zero]
              repeat (first
                | (refine HeadC.val (by rfl) ?_
                   apply Exists.intro
                   refine ⟨fun w' hw' => ?_, ?_⟩
                   · (have hf_0 := (hW5.of hw').getW hwf1 false hv; have hf_1 := cell_up hw' x0; have hf_2 := cell_up hw' x1; have hf_3 := cell_up hw' x2; (go_simp) <;> (try go_ints) <;> with_reducible rfl)
                   try simp only [Act.put, List.setIfInBounds_toArray, List.set_cons_zero, List.set_cons_succ])
                | (refine HeadC.shut (by rfl) ?_
                   try simp only [Act.put, List.setIfInBounds_toArray, List.set_cons_zero, List.set_cons_succ]))
              refine HeadC.nil ?_
              refine AllC.done (by kernel_rfl) (fun wt hwt => ?_)
              have hgE : Grew w5 wt := (grew_drew _).trans hwt
              clear hwt
              go_wp2_with fail
              go_roundw
              case rel => exact ⟨k + 1, L, by omega, by go_num, by rw [HN1.out]; exact (hI5.of hgE).more (by omega), HLc.out, HLp.out, ((hW5.of hgE).mono (by omega)).congr HN2.out, Below.trans (B := w2.heap.size) hb5 (hgE.mono hb5.size)⟩
              case measure => simp [intOf]; omega
            obtain ⟨hw1, hw2⟩ := hwant
            have hv := want_yes hw1 hw2
            by_cases hlen : (zs.length : Int) = j2
            case neg =>
              have hlen2 : ((zs.length : Int) == j2) = false := by rw [beq_eq_false_iff_ne]; exact hlen
              have hno := HNO.out (fun h => hlen (congrArg Prod.snd h.2.2))
              have HN1 := Lib.hid hno.1
              have HN2 := Lib.hid hno.2
              clear hno
              clear hw1 hw2 hlen
              refine wp_region_g 21 (by kernel_rfl) ?_
              refine AllC.head 0 21 (fuel := 0) (by first | exact fun h k => Grew.trans h k | exact fun h k => cls_grew h k) (grew_drew _) (by rfl) (by kernel_rfl) ?_
              simp only [List.take_succ_cons, List.take_zero, List.drop_succ_cons, List.drop_zero]
              repeat (first
                | (refine HeadC.val (by rfl) ?_
                   apply Exists.intro
                   refine ⟨fun w' hw' => ?_, ?_⟩
                   · (have hf_0 := (hW5.of hw').getW hwf1 true hv; have hf_1 := cell_up hw' x0; have hf_2 := cell_up hw' x1; have hf_3 := cell_up hw' x2; (go_simp) <;> (try go_ints) <;> with_reducible rfl)
                   try simp only [Act.put, List.setIfInBounds_toArray, List.set_cons_zero, List.set_cons_succ])
                | (refine HeadC.shut (by rfl) ?_
                   try simp only [Act.put, List.setIfInBounds_toArray, List.set_cons_zero, List.set_cons_succ]))
              refine HeadC.nil ?_
              refine AllC.done (by kernel_rfl) (fun wt hwt => ?_)
              have hgE : Grew w5 wt := (grew_drew _).trans hwt
              clear hwt
              go_wp2_with fail
              go_roundw
              case rel => exact ⟨k + 1, L, by omega, by go_num, by rw [HN1.out]; exact (hI5.of hgE).more (by omega), HLc.out, HLp.out, ((hW5.of hgE).mono (by omega)).congr HN2.out, Below.trans (B := w2.heap.size) hb5 (hgE.mono hb5.size)⟩
              case measure => simp [intOf]; omega
            subst hlen
            by_cases hid : sumZ zs = j1
            case neg =>
              have hno := HNO.out (fun h => hid (congrArg Prod.fst h.2.2))
              have HN1 := Lib.hid hno.1
              have HN2 := Lib.hid hno.2
              clear hno
              clear hw1 hw2
              refine wp_region_g 21 (by kernel_rfl) ?_
              refine AllC.head 0 21 (fuel := 0) (by first | exact fun h k => Grew.trans h k | exact fun h k => cls_grew h k) (grew_drew _) (by rfl) (by kernel_rfl) ?_
              simp only [List.take_succ_cons, List.take_zero, List.drop_succ_cons, List.drop_zero]
              repeat (first
                | (refine HeadC.val (by rfl) ?_
                   apply Exists.intro
                   refine ⟨fun w' hw' => ?_, ?_⟩
                   · (have hf_0 := (hW5.of hw').getW hwf1 true hv; have hf_1 := cell_up hw' x0; have hf_2 := cell_up hw' x1; have hf_3 := cell_up hw' x2; (go_simp) <;> (try go_ints) <;> with_reducible rfl)
                   try simp only [Act.put, List.setIfInBounds_toArray, List.set_cons_zero, List.set_cons_succ])
                | (refine HeadC.call (by rfl) ?_
                   apply Exists.intro; apply Exists.intro
                   refine ⟨fun w' hw' => ?_, ?_⟩
                   · (have hf_0 := (hW5.of hw').getW hwf1 true hv; have hf_1 := cell_up hw' x0; have hf_2 := cell_up hw' x1; have hf_3 := cell_up hw' x2; (go_simp) <;> first | (refine ⟨?_, ?_⟩ <;> with_reducible rfl) | with_reducible rfl)
                   apply Exists.intro
                   refine ⟨fun w' hw' => ?_, ?_⟩
                   · (first | exact of_any bA bcp w'.heap.size zs w' ((hr5.up hw' (Nat.le_refl _)).more hw'.size) (Nat.le_refl _) hbz (by omega))
                   try simp only [Act.put, List.setIfInBounds_toArray, List.set_cons_zero, List.set_cons_succ])
                | (refine HeadC.shut (by rfl) ?_
                   try simp only [Act.put, List.setIfInBounds_toArray, List.set_cons_zero, List.set_cons_succ]))
              refine HeadC.nil ?_
              refine AllC.done (by kernel_rfl) (fun wt hwt => ?_)
              have hgE : Grew w5 wt := (grew_drew _).trans hwt
              clear hwt
              generalize sumZ zs = sm at *
              go_wp2_with fail
              go_roundw
              case rel => exact ⟨k + 1, L, by omega, by go_num, by rw [HN1.out]; exact (hI5.of hgE).more (by omega), HLc.out, HLp.out, ((hW5.of hgE).mono (by omega)).congr HN2.out, Below.trans (B := w2.heap.size) hb5 (hgE.mono hb5.size)⟩
              case measure => simp [intOf]; omega
            subst hid
            have hyes := HYES.out hw1 hw2 rfl
            have HN1 := Lib.hid hyes.1
            have HN2 := Lib.hid hyes.2
            have HZs := Lib.hid (rfl : idOf zs = (sumZ zs, (zs.length : Int)))
            have hzl : zs.length ≤ 8192 := by
              have h1 := List.all_eq_true.1 (chkM_zero HZ.out).2.1 _ ((HMem.out _).1 hw1)
              unfold okId at h1
              simp only [Bool.and_eq_true, decide_eq_true_eq] at h1
              omega
            clear hyes hw1 hw2
            refine wp_region_g 21 (by kernel_rfl) ?_
            refine AllC.head 0 21 (fuel := 0) (by first | exact fun h k => Grew.trans h k | exact fun h k => cls_grew h k) (grew_drew _) (by rfl) (by kernel_rfl) ?_
            simp only [List.take_succ_cons, List.take_zero, List.drop_succ_cons, List.drop_zero]
            repeat (first
              | (refine HeadC.val (by rfl) ?_
                 apply Exists.intro
                 refine ⟨fun w' hw' => ?_, ?_⟩
                 · (have hf_0 := (hW5.of hw').getW hwf1 true hv; have hf_1 := cell_up hw' x0; have hf_2 := cell_up hw' x1; have hf_3 := cell_up hw' x2; (go_simp) <;> (try go_ints) <;> with_reducible rfl)
                 try simp only [Act.put, List.setIfInBounds_toArray, List.set_cons_zero, List.set_cons_succ])
              | (refine HeadC.call (by rfl) ?_
                 apply Exists.intro; apply Exists.intro
                 refine ⟨fun w' hw' => ?_, ?_⟩
                 · (have hf_0 := (hW5.of hw').getW hwf1 true hv; have hf_1 := cell_up hw' x0; have hf_2 := cell_up hw' x1; have hf_3 := cell_up hw' x2; (go_simp) <;> first | (refine ⟨?_, ?_⟩ <;> with_reducible rfl) | with_reducible rfl)
                 apply Exists.intro
                 refine ⟨fun w' hw' => ?_, ?_⟩
                 · (first | exact of_any bA bcp w'.heap.size zs w' ((hr5.up hw' (Nat.le_refl _)).more hw'.size) (Nat.le_refl _) hbz (by omega))
                 try simp only [Act.put, List.setIfInBounds_toArray, List.set_cons_zero, List.set_cons_succ])
              | (refine HeadC.shut (by rfl) ?_
                 try simp only [Act.put, List.setIfInBounds_toArray, List.set_cons_zero, List.set_cons_succ]))
            refine HeadC.nil ?_
            refine AllC.done (by kernel_rfl) (fun wt hwt => ?_)
            have hgE : Grew w5 wt := (grew_drew _).trans hwt
            clear hwt
            have hI6 := hI5.of hgE
            have hW6 := hW5.of hgE
            have kC6 := kC.of hgE
            have hb6 : Below w2.heap.size w2 wt := Below.trans (B := w2.heap.size) hb5 (hgE.mono hb5.size)
            have hr6 := (hr5.up hgE (Nat.le_refl _)).more hgE.size
            clear hI5 hW5 kC hb5 hr5 hgE x0 x1 x2 hv
            obtain ⟨w6, hw6⟩ : ∃ w6, w6 = wt := ⟨_, rfl⟩
            subst hw6
            generalize sumZ zs = sm at *
            have x0 := (kC6.cell 0).trans (show _ = some (.int .u64 sm) from rfl)
            have x1 := (kC6.cell 1).trans (show _ = some (.int .i64 (zs.length : Nat)) from rfl)
            have x2 := (kC6.cell 2).trans (show _ = some (.slice bA zs.length bcp) from rfl)
            have m2 : w6.cell? ⟨gx, 2, none⟩ = some (.map (some L.bc)) := hI6.cells.2.2.1
            go_wp2_with fail
            refine wp_region_g 9 (by kernel_rfl) ?_
            refine AllC.head 0 8 (fuel := 2) (by first | exact fun h k => Grew.trans h k | exact fun h k => cls_grew h k) (grew_drew _) (by rfl) (by kernel_rfl) ?_
            simp only [List.take_succ_cons, List.take_zero, List.drop_succ_cons, List.drop_zero]
            repeat (first
              | (refine HeadC.val (by rfl) ?_
                 apply Exists.intro
                 refine ⟨fun w' hw' => ?_, ?_⟩
                 · (have hf_0 := cell_up hw' m2; have hf_1 := cell_up hw' x0; have hf_2 := cell_up hw' x1; have hf_3 := cell_up hw' x2; (go_simp) <;> (try go_ints) <;> with_reducible rfl)
                 try simp only [Act.put, List.setIfInBounds_toArray, List.set_cons_zero, List.set_cons_succ])
              | (refine HeadC.shut (by rfl) ?_
                 try simp only [Act.put, List.setIfInBounds_toArray, List.set_cons_zero, List.set_cons_succ]))
            refine HeadC.nil ?_
            refine AllC.one 8 (by kernel_rfl) rfl ?_
            intro wg hg K hK
            go_simp
            have hg0 : Grew w6 wg := (grew_drew _).trans hg
            refine (cloneB_any bA bcp w6.heap.size zs wg (hr6.up hg0 (Nat.le_refl _)) hg0.size (by omega)).mono ?_
            rintro e w7 ⟨A7, c7, rfl, hown7, hb7⟩
            replace hg0 : Grew w6 w7 := hg0.trans hb7
            replace hown7 := own_mono hown7 (base' := w6.heap.size) ((grew_drew _).trans hg).size
            refine hK.out _ _ hg0 ?_
            clear hK K hg hb7 wg
            try simp only [Act.put, List.setIfInBounds_toArray, List.set_cons_zero, List.set_cons_succ]
            refine AllC.tail 9 (by rfl) (by kernel_rfl) ?_
            intro wt hwt
            simp only [List.drop_succ_cons, List.drop_zero]
            replace hg0 := hg0.trans hwt
            replace hown7 := own_below hown7 hwt
            have hI7 := hI6.of hg0
            have hW7 := hW6.of hg0
            have kC7 := kC6.of hg0
            refine wpList_store_id rfl (.tmp 74) (.tmp 76) (.tmp 79) rfl Try.underlying94 rfl hI7.mc (by unfold maxLen; omega) (sm, (zs.length : Int)) rfl hwf1 rfl ?_
            intro w8 hM8 hch8
            have S3 := RcvIs.setComp (ys := zs) hI7 (own_mono hown7 hb6.size) (fun y hy => absurd rfl hy) hM8 hch8
            have hW8 := hW7.ch hch8 (show ¬ gw = L.bc by rw [HLc.out]; omega)
            have kC8 := kC7.ch hch8 (fun h => hI7.mc.ne_blk kC7 h.symm)
            have hb8 : Below w2.heap.size w2 w8 := Below.trans (B := w2.heap.size) hb6 (Below.trans (B := w2.heap.size) (hg0.mono hb6.size) (hch8.below (Nat.le_trans hb6.size hg0.size) (fun i hi => by rw [hi]; exact hI7.lo.2.1)))
            clear hg0 hwt hown7 hI7 hI6 hW7 hW6 kC7 kC6 hM8 hch8 x0 x1 x2 m2 hr6 hb6
            try simp only [Act.put, List.setIfInBounds_toArray, List.set_cons_zero, List.set_cons_succ]
            have x0 := (kC8.cell 0).trans (show _ = some (.int .u64 sm) from rfl)
            have x1 := (kC8.cell 1).trans (show _ = some (.int .i64 (zs.length : Nat)) from rfl)
            go_wp2_with (at_mapUpdate; refine wpList_store_id rfl (.tmp 80) (.tmp 82) (.const (.bool false)) rfl Try.underlying104 rfl hW8 (by unfold maxLen; omega) (sm, (zs.length : Int)) rfl hwf1 rfl ?_; intro w9 hM9 hch9)
            go_roundw
            case rel => exact ⟨k + 1, { L with C := updF L.C (sm, (zs.length : Int)) (A7, c7) }, by omega, by go_num, by rw [HN1.out]; exact (S3.is.chMap hW8 (show gw ≠ L.bc by rw [HLc.out]; omega) (show gw ≠ L.bp by rw [HLp.out]; omega) hch9), HLc.out, HLp.out, hM9.congr HN2.out, Below.trans (B := w2.heap.size) hb8 (hch9.below hb8.size (fun i hi => by rw [hi]; omega))⟩
            case measure => simp [intOf]; omega
          · obtain rfl : k = cs.length := by omega
            rw [List.take_length] at hI hW
            have HI0 := Lib.hid (show RcvIs _ w2.heap.size gx cs.length L { rcv0 n ids with comp := compH ms cs, miss := lackH cs (ms.take 0) } from hI)
            clear hI
            go_wp2_with fail
            clear hlt
            go_loopw [86] (fun i wx => ∃ (k : Nat) (L : RcL), k ≤ ms.length ∧ i = .int .i64 k ∧ RcvIs wx w2.heap.size gx cs.length L { rcv0 n ids with comp := compH ms cs, miss := lackH cs (ms.take k) } ∧ L.bc = L0.bc ∧ L.bp = L0.bp ∧ MapIs wx gw (ms.length + cs.length) (wantM ms cs) ∧ Below w2.heap.size w2 wx) (fun i _ => ms.length - (intOf i).toNat)
            case atStart => exact ⟨0, L, Nat.zero_le _, rfl, HI0.out, HLc.out, HLp.out, hW, hb⟩
            case round =>
              clear hW hb HI0 HLc HLp
              obtain ⟨k, L, hk, rfl, hI, hLc, hLp, hW, hb⟩ := hrel
              have HLc := Lib.hid hLc
              have HLp := Lib.hid hLp
              clear hLc hLp
              have hgw2 : Grew w _ := hg2.trans hb
              by_cases hlt : k < ms.length
              · obtain ⟨ad, rfl, hbl, d0, d1⟩ := ids_at (HRowM.out.below hb (Nat.le_refl _)) hlt
                have hmem := List.getElem_mem hlt
                have hwf1 := HWf.out _ ((HMem.out _).1 hmem)
                have HSn := Lib.hid (lackH_snoc cs ms k hlt)
                have hll : (lackH cs (ms.take k)).length ≤ 1024 := by
                  have h1 : (lackH cs (ms.take k)).length ≤ (ms.take k).length := List.length_filter_le _ _
                  have h2 := List.length_take_le k ms
                  omega
                have hv0 : ∀ v, (haveC cs ms[k]).isNone = v → (wantM ms cs ms[k]).getD (.bool false) = .bool v := fun v hv => by
                  unfold wantM; rw [if_pos hmem, hv]; rfl
                generalize ms[k] = x at *
                obtain ⟨j1, j2⟩ := x
                simp only at d0 d1 HSn
                have hga := grew_alloc wr (.cells #[.int .u64 j1, .int .i64 j2] 53)
                have kX := Blk.new wr 53 #[.int .u64 j1, .int .i64 j2]
                have hmlt : ∀ i, (Value.slice L.am (lackH cs (ms.take k)).length L.cm).ownBlock = some i → i < wr.heap.size := fun i hi => (hI.miss.lt i hi).2
                have hI5 := hI.of hga
                have hW5 := hW.of hga
                have hb5 : Below w2.heap.size w2 (wr.alloc (.cells #[.int .u64 j1, .int .i64 j2] 53)) := Below.trans (B := w2.heap.size) hb (hga.mono hb.size)
                clear hga hI hW hb hmem hgw2
                go_upto_region 21 with (fail)
                clear d0 d1
                generalize wr.alloc (.cells #[.int .u64 j1, .int .i64 j2] 53) = w5 at *
                generalize wr.heap.size = gc at *
                have x0 := (kX.cell 0).trans (show _ = some (.int .u64 j1) from rfl)
                have x1 := (kX.cell 1).trans (show _ = some (.int .i64 j2) from rfl)
                cases hN : (haveC cs (j1, j2)).isNone with
                | false =>
                  have hlk := hW5.getW hwf1 false (hv0 _ hN)
                  have HN1 := Lib.hid (show lackH cs (ms.take (k + 1)) = lackH cs (ms.take k) by rw [HSn.out, hN]; simp)
                  clear hN hv0
                  go_wp2_with fail
                  go_roundw
                  case rel => exact ⟨k + 1, L, by omega, by go_num, by rw [HN1.out]; exact hI5, HLc.out, HLp.out, hW5, hb5⟩
                  case measure => simp [intOf]; omega
                | true =>
                  have hlk := hW5.getW hwf1 true (hv0 _ hN)
                  have HN1 := Lib.hid (show lackH cs (ms.take (k + 1)) = lackH cs (ms.take k) ++ [(j1, j2)] by rw [HSn.out, hN]; simp)
                  clear hN hv0
                  go_upto_region 22 with (fail)
                  clear hlk
                  have b4 : w5.cell? ⟨gx, 4, none⟩ = some (.slice L.am (lackH cs (ms.take k)).length L.cm) := hI5.cells.2.2.2.2.1
                  have hmv : w5.ownsRow w2.heap.size 53 2 (.slice L.am (lackH cs (ms.take k)).length L.cm) (lackH cs (ms.take k)).length (idsC (lackH cs (ms.take k))) := hI5.miss
                  have hb4 := hI5.blk
                  have hnb := own_blk_ne hmv hb4 (by decide)
                  have hnk : (Value.slice L.am (lackH cs (ms.take k)).length L.cm).ownBlock ≠ some gc := fun h => Nat.lt_irrefl _ (hmlt _ h)
                  clear hmlt
                  have HI5 := Lib.hid hI5
                  clear hI5
                  refine wp_region_cls (Ch (fun i => (Value.slice L.am (lackH cs (ms.take k)).length L.cm).ownBlock = some i) w5) 8 (by kernel_rfl) ?_
                  have hc0 := (Ch.refl (fun i => (Value.slice L.am (lackH cs (ms.take k)).length L.cm).ownBlock = some i) w5).drew
                  refine AllC.head 0 6 (fuel := 5) (by first | exact fun h k => Grew.trans h k | exact fun h k => cls_grew h k) (hc0) (by rfl) (by kernel_rfl) ?_
                  simp only [List.take_succ_cons, List.take_zero, List.drop_succ_cons, List.drop_zero]
                  repeat (first
                    | (refine HeadC.val (by rfl) ?_
                       apply Exists.intro
                       refine ⟨fun w' hw' => ?_, ?_⟩
                       · (have hf_0 := hw'.cell b4 hnb; have hf_1 := hw'.cell x0 hnk; have hf_2 := hw'.cell x1 hnk; (go_simp) <;> (try go_ints) <;> with_reducible rfl)
                       try simp only [Act.put, List.setIfInBounds_toArray, List.set_cons_zero, List.set_cons_succ])
                    | (refine HeadC.shut (by rfl) ?_
                       try simp only [Act.put, List.setIfInBounds_toArray, List.set_cons_zero, List.set_cons_succ]))
                  refine HeadC.nil ?_
                  refine AllC.one 6 (by kernel_rfl) rfl ?_
                  intro wg hg K hK
                  go_simp
                  have hg0 := (grew_drew w5).trans hg
                  have hga := grew_alloc wg (.cells #[.int .u64 j1, .int .i64 j2] 53)
                  have hgA : Grew w5 (wg.alloc (.cells #[.int .u64 j1, .int .i64 j2] 53)) := hg0.trans hga
                  have hown7 := own_below hmv hgA
                  have hrow7 := Blk.row (Blk.new wg 53 #[.int .u64 j1, .int .i64 j2])
                  refine hK.out _ _ (Ch.of_below hgA) ?_
                  clear hK K hg hc0 hga hg0
                  try simp only [Act.put, List.setIfInBounds_toArray, List.set_cons_zero, List.set_cons_succ]
                  generalize wg.alloc (.cells #[.int .u64 j1, .int .i64 j2] 53) = w15 at *
                  generalize wg.heap.size = g7 at *
                  clear wg
                  refine AllC.one 7 (by kernel_rfl) rfl ?_
                  intro wg hg K hK
                  have hgA8 := hgA.trans hg
                  have hown8 := own_below hown7 hg
                  have hrow8 := hrow7.up hg (Nat.le_refl _)
                  have hbg := hgA8.size
                  have hb5s := hb5.size
                  refine step_append_row rfl (.tmp 97) (.tmp 99) rfl w2.heap.size elem_id (by rfl) hown8 _ (by rfl) (by rfl) hrow8 (by simp [Value.oneCell']) (by unfold maxLen; omega) (by omega) (by omega) ?_
                  intro A16 c16 w16 hown16 hg16 hor16
                  refine hK.out _ _ ((Ch.of_below hgA8).trans (Ch.of_own hg16)) ?_
                  clear hK K hrow8 hown8 hrow7 hown7
                  try simp only [Act.put, List.setIfInBounds_toArray, List.set_cons_zero, List.set_cons_succ]
                  refine AllC.tail 8 (by rfl) (by kernel_rfl) ?_
                  intro wt hwt
                  simp only [List.drop_succ_cons, List.drop_zero]
                  have S5 := RcvIs.addMiss HI5.out (x := (j1, j2)) hgA8 (own_below hown16 hwt) ((Ch.of_own hg16).next hwt) hor16
                  have hWF := RcvIs.mapF HI5.out hW5 (show gw ≠ L.bc by rw [HLc.out]; omega) (show gw ≠ L.bp by rw [HLp.out]; omega)
                  have hW9 := hW5.ch S5.ch hWF
                  have hb9 : Below w2.heap.size w2 _ := Below.trans (B := w2.heap.size) hb5 (S5.below HI5.out hb5.size)
                  have hbw := (hb4.ch ((Ch.of_below hgA8).trans (Ch.of_own hg16)) hnb).of hwt
                  have y4 := hbw.frozen 4
                  have b4' := (hbw.cell 4).trans (show _ = some _ from rfl)
                  have HS := Lib.hid S5
                  clear S5 hbw hg16 hown16 hor16 hwt hgA hgA8 hg hb4 b4 hmv kX x0 x1 HI5 hW5 hb5 hWF hbg hb5s
                  go_wp2_with fail
                  go_roundw
                  case rel => exact ⟨k + 1, { L with am := A16, cm := c16 }, by omega, by go_num, by rw [HN1.out]; exact HS.out.is, HLc.out, HLp.out, hW9, hb9⟩
                  case measure => simp [intOf]; omega
              · obtain rfl : k = ms.length := by omega
                rw [List.take_length] at hI
                go_wp2_with fail
                go_ret2
                refine ⟨hgw2, ?_⟩
                rw [if_pos HZ.out, HRE.out]
                exact ⟨gx, L, rfl, hI.lower hg2.size⟩
end
end Go.Proofs.Ytpoiejgoongllaa
