/-
  What reads a receiver: Missing, Ask, Done, Chunks.
-/
import Derived.Test.YtpoiejgoongllaaRcv37
namespace Go.Proofs.Ytpoiejgoongllaa
section
set_option linter.unusedVariables false
set_option linter.unusedSimpArgs false
set_option linter.unnecessarySimpa false
open Go.RowKit
attribute [local go_sem ↓] Go.wp_at_zero Go.wp_at_succ

/-- the prefix's slice, nil where there is none -/
def pvO (L : RcL) (r : Rcv) (x : IdZ) : Option Addr × Nat := if r.pref x = [] then (none, 0) else L.P x
section
variable {w w' : World} {base g M : Nat} {L : RcL} {r : Rcv} {x : IdZ}
theorem RcvIs.getc (h : RcvIs w base g M L r) (wx : WfI x) {zs : List Int} (hx : r.comp x = some zs) :
    (Instr.lookup 94 (.map (some L.bc)) (.agg #[.int .u64 x.1, .int .i64 x.2]) false).run Try.prog w = .ok (.slice (L.C x).1 zs.length (L.C x).2) w := by
  have := h.mc.get wx Try.underlying94 (z := .slice none 0 0) (by kernel_rfl)
  have e : compM L r x = some (.slice (L.C x).1 zs.length (L.C x).2) := by unfold compM; rw [hx]; rfl
  rw [e] at this
  exact this
theorem RcvIs.getp (h : RcvIs w base g M L r) (wx : WfI x) :
    (Instr.lookup 94 (.map (some L.bp)) (.agg #[.int .u64 x.1, .int .i64 x.2]) false).run Try.prog w = .ok (.slice (pvO L r x).1 (r.pref x).length (pvO L r x).2) w := by
  have := h.mp.get wx Try.underlying94 (z := .slice none 0 0) (by kernel_rfl)
  have e : (prefM L r x).getD (.slice none 0 0) = .slice (pvO L r x).1 (r.pref x).length (pvO L r x).2 := by
    unfold prefM pvO
    by_cases hp : r.pref x = []
    · rw [if_pos hp, if_pos hp, hp]; rfl
    · rw [if_neg hp, if_neg hp]; rfl
  rw [e] at this
  exact this
set_option maxRecDepth 100000 in
theorem RcvIs.getp' (h : RcvIs w base g M L r) {xs xn : Int} (wx : WfI (xs, xn)) :
    (Instr.lookup 94 (.map (some L.bp)) (.agg #[.int .u64 xs, .int .i64 xn]) false).run Try.prog w = .ok (.slice (pvO L r (xs, xn)).1 (r.pref (xs, xn)).length (pvO L r (xs, xn)).2) w := h.getp wx
set_option maxRecDepth 100000 in
theorem RcvIs.getc' (h : RcvIs w base g M L r) {xs xn : Int} (wx : WfI (xs, xn)) {zs : List Int} (hx : r.comp (xs, xn) = some zs) :
    (Instr.lookup 94 (.map (some L.bc)) (.agg #[.int .u64 xs, .int .i64 xn]) false).run Try.prog w = .ok (.slice (L.C (xs, xn)).1 zs.length (L.C (xs, xn)).2) w := h.getc wx hx
theorem RcvIs.prefOwn (h : RcvIs w base g M L r) (x : IdZ) : w.ownsRow base 5 1 (.slice (pvO L r x).1 (r.pref x).length (pvO L r x).2) (r.pref x).length ((r.pref x).map (.int .u8)) := by
  unfold pvO
  by_cases hp : r.pref x = []
  · rw [if_pos hp, hp]; exact World.ownsRow_nil _ _ _ _
  · rw [if_neg hp]; exact h.pref x hp
theorem RcvIs.cells (h : RcvIs w base g M L r) : w.cell? ⟨g, 0, none⟩ = some (.int .i64 r.n) ∧ w.cell? ⟨g, 1, none⟩ = some (.slice L.ai r.ids.length L.ci) ∧ w.cell? ⟨g, 2, none⟩ = some (.map (some L.bc)) ∧ w.cell? ⟨g, 3, none⟩ = some (.map (some L.bp)) ∧
    w.cell? ⟨g, 4, none⟩ = some (.slice L.am r.miss.length L.cm) ∧ w.cell? ⟨g, 5, none⟩ = some (.slice L.ar r.recv.length L.cr) :=
  ⟨(h.blk.cell 0).trans rfl, (h.blk.cell 1).trans rfl, (h.blk.cell 2).trans rfl, (h.blk.cell 3).trans rfl, (h.blk.cell 4).trans rfl, (h.blk.cell 5).trans rfl⟩
end

theorem run_slice_hi {P : Program} {t e : TypeId} (ht : P.underlying t = some (.slice e)) {i : TypeInfo} (hi : P.info? e = some i) {A : Option Addr} {len cap n : Nat} (hn : n ≤ cap) (w : World) :
    (Instr.sliceAt t (.slice A len cap) none (some (.int .i64 (n : Int))) none).run P w = .ok (.slice A n cap) w := by
  have ha : (if cap = 0 then A else A.map fun x => x.add 0) = A := by
    split
    · rfl
    · cases A with
      | none => rfl
      | some a => simp [Addr.add]
  simp [Instr.sliceAt, Instr.slice, run_underlying ht, Instr.sliceBounds, Instr.sliceBound, asIntOf, sizeOf, typeInfo, hi, hn, Result.andThen]
  intro h0
  rw [if_neg h0] at ha
  exact ha
theorem slice_ids (A : Option Addr) (len cap n : Nat) (hn : n ≤ cap) (w : World) : (Instr.sliceAt 31 (.slice A len cap) none (some (.int .i64 (n : Int))) none).run Try.prog w = .ok (.slice A n cap) w := by
  obtain ⟨i, _, hi, _⟩ := elem_id.hi
  exact run_slice_hi Try.underlying31 hi hn w

set_option maxHeartbeats 1000000 in
theorem missing37_any {base g M : Nat} {L : RcL} {r : Rcv} (w : World) (h : RcvIs w base g M L r) (ok : RcOk r) :
    Calls Try.prog 27 #[.pointer (some ⟨g, 0, none⟩)] w fun e w' => ∃ A c, e = .returned (.slice A r.miss.length c) ∧ w'.ownsRow w.heap.size 53 2 (.slice A r.miss.length c) r.miss.length (idsC r.miss) ∧ Grew w w' := by
  obtain ⟨c0, c1, c2, c3, c4, c5⟩ := h.cells
  have HC := Lib.hid (cloneI_any L.am L.cm w.heap.size r.miss w (own_row h.miss) (Nat.le_refl _) (by have := ok.len; omega))
  go_enter Try.func27, Try.ntmps27
  go_wp2_with fail
  refine HC.out.mono ?_
  rintro e w' ⟨A, c, rfl, hown, hb⟩
  go_wp2_with fail
  go_ret
  exact ⟨A, c, rfl, hown, hb⟩

/-- the requests: P37.2 -/
def askP (r : Rcv) (l : List IdZ) : List Pk := l.map fun x => ⟨1, x, ((r.pref x).length : Int), ⟨none, 0, []⟩⟩
theorem askP_length (r : Rcv) (l : List IdZ) : (askP r l).length = l.length := by simp [askP]
theorem askP_snoc (r : Rcv) (l : List IdZ) (k : Nat) (h : k < l.length) : askP r (l.take (k + 1)) = askP r (l.take k) ++ [⟨1, l[k], ((r.pref l[k]).length : Int), ⟨none, 0, []⟩⟩] := by
  unfold askP; rw [List.take_succ_eq_append_getElem h, List.map_append]; rfl
def askN (r : Rcv) (most : Int) : Nat := min (max most 0).toNat r.miss.length
def askL (r : Rcv) (most : Int) : List IdZ := r.miss.take (askN r most)
theorem askL_length (r : Rcv) (most : Int) : (askL r most).length = askN r most := by unfold askL askN; rw [List.length_take]; omega

set_option maxRecDepth 100000 in
set_option maxHeartbeats 2000000 in
theorem ask37_any {base g M : Nat} {L : RcL} {r : Rcv} (most : Int) (w : World) (h : RcvIs w base g M L r) (ok : RcOk r) :
    Calls Try.prog 22 #[.pointer (some ⟨g, 0, none⟩), .int .i64 most] w fun e w' => ∃ A c, e = .returned (.slice A (askP r (askL r most)).length c) ∧
      w'.ownsRow w.heap.size 55 5 (.slice A (askP r (askL r most)).length c) (askP r (askL r most)).length (pksC (askP r (askL r most))) ∧ Grew w w' := by
  obtain ⟨c0, c1, c2, c3, c4, c5⟩ := h.cells
  obtain ⟨b1, b2, b3, b4⟩ := ok.len
  have hrow := own_row h.miss
  have hcap := (own_cap h.miss).1
  have hmin : min (max most 0) (r.miss.length : Int) = ((askN r most : Nat) : Int) := by unfold askN; omega
  have hsl := fun W => slice_ids L.am r.miss.length L.cm (askN r most) (by unfold askN; omega) W
  have HL := Lib.hid (askL_length r most)
  have hrl : Row w w.heap.size L.am (idsC (askL r most)) := by
    have := row_take hrow (askN r most * 2)
    rw [show (idsC r.miss).take (askN r most * 2) = idsC (askL r most) from flat_take (f := idC) (c := 2) (fun _ => rfl) _ _] at this
    exact this
  have hn : askN r most ≤ 1024 := by unfold askN; omega
  have H := Lib.hid h
  have OK := Lib.hid ok
  have Hwf : Hid (∀ x ∈ askL r most, WfI x) := Lib.hid (fun x hx => ok.wf x (ok.sub x (List.mem_of_mem_take hx)))
  generalize L.am = Am at *
  generalize askN r most = n at *
  generalize askL r most = l at *
  have HN := HL.out
  subst HN
  rw [askP_length]
  clear h ok hrow HL
  go_enter Try.func22, Try.ntmps22
  go_wp2_with fail
  go_quiet (fail)
  clear c0 c1 c2 c3 c4 c5 hmin hsl
  go_wp2_with fail
  go_loopw [5, 22] (fun v i wr => ∃ (k : Nat) (Ao : Option Addr) (co : Nat), k ≤ l.length ∧ i = .int .i64 k ∧ v = .slice Ao k co ∧ wr.ownsRow w.heap.size 55 5 (.slice Ao k co) k (pksC (askP r (l.take k))) ∧ Below w.heap.size w wr) (fun _ i _ => l.length - (intOf i).toNat)
  case atStart => exact ⟨0, none, 0, Nat.zero_le _, rfl, rfl, World.ownsRow_nil _ _ _ _, grew_drawn ⟨_, rfl⟩⟩
  case round =>
    obtain ⟨k, Ao, co, hk, rfl, rfl, hown, hb⟩ := hrel
    by_cases hlt : k < l.length
    · obtain ⟨ad, rfl, hbl, d0, d1⟩ := ids_at (hrl.below hb (Nat.le_refl _)) hlt
      have hsn := Lib.hid (askP_snoc r l k hlt)
      have hwf := Hwf.out _ (List.getElem_mem hlt)
      generalize l[k] = x at *
      obtain ⟨xs, xn⟩ := x
      simp only at d0 d1 hsn
      have hga := grew_alloc wr (.cells #[.int .u64 xs, .int .i64 xn] 53)
      have kX := Blk.new wr 53 #[.int .u64 xs, .int .i64 xn]
      replace hown := own_below hown hga
      replace hb : Below w.heap.size w (wr.alloc (.cells #[.int .u64 xs, .int .i64 xn] 53)) := Below.trans (B := w.heap.size) hb (hga.mono hb.size)
      clear hga
      go_upto_region 5 with (fail)
      generalize wr.alloc (.cells #[.int .u64 xs, .int .i64 xn] 53) = w5 at *
      generalize wr.heap.size = gx at *
      have x0 := (kX.cell 0).trans (show _ = some (.int .u64 xs) from rfl)
      have x1 := (kX.cell 1).trans (show _ = some (.int .i64 xn) from rfl)
      have hnx : (Value.slice Ao k co).ownBlock ≠ some gx := own_blk_ne hown kX (by decide)
      have hbw : ∀ w', Ch (fun i => (Value.slice Ao k co).ownBlock = some i) w5 w' → Grew w w' := fun w' h => Below.trans (B := w.heap.size) hb (h.below hb.size (fun i hi => own_lt hown i hi))
      refine wp_region_cls (Ch (fun i => (Value.slice Ao k co).ownBlock = some i) w5) 12 (by kernel_rfl) ?_
      have hc0 := (Ch.refl (fun i => (Value.slice Ao k co).ownBlock = some i) w5).drew
      refine AllC.head 0 10 (fuel := 3) (by first | exact fun h k => Grew.trans h k | exact fun h k => cls_grew h k) (hc0) (by rfl) (by kernel_rfl) ?_
      simp only [List.take_succ_cons, List.take_zero, List.drop_succ_cons, List.drop_zero]
      repeat (first
        | (refine HeadC.val (by rfl) ?_
           apply Exists.intro
           refine ⟨fun w' hw' => ?_, ?_⟩
           · (have hf_0 := (H.out.of (hbw w' hw')).cells.2.2.2.1; have hf_1 := (H.out.of (hbw w' hw')).getp' hwf; have hf_2 := hw'.cell x0 hnx; have hf_3 := hw'.cell x1 hnx; (go_simp) <;> (try go_ints) <;> with_reducible rfl)
           try simp only [Act.put, List.setIfInBounds_toArray, List.set_cons_zero, List.set_cons_succ])
        | (refine HeadC.shut (by rfl) ?_
           try simp only [Act.put, List.setIfInBounds_toArray, List.set_cons_zero, List.set_cons_succ]))
      refine HeadC.nil ?_
      refine AllC.one 10 (by kernel_rfl) rfl ?_
      intro wg hg K hK
      go_simp
      have hg0 := (grew_drew w5).trans hg
      generalize (r.pref (xs, xn)).length = pl at *
      have hga := grew_alloc wg (.cells #[.int .i64 1, .int .u64 xs, .int .i64 xn, .int .i64 pl, .slice none 0 0] 55)
      have hc7 : Ch (fun i => (Value.slice Ao k co).ownBlock = some i) w5 (wg.alloc (.cells #[.int .i64 1, .int .u64 xs, .int .i64 xn, .int .i64 pl, .slice none 0 0] 55)) := (Ch.of_below hg0).alloc _
      have hown7 := own_below hown (hg0.trans hga)
      have hrow7 := Blk.row (Blk.new wg 55 #[.int .i64 1, .int .u64 xs, .int .i64 xn, .int .i64 pl, .slice none 0 0])
      refine hK.out _ _ hc7 ?_
      clear hK K hg hc0 hga
      try simp only [Act.put, List.setIfInBounds_toArray, List.set_cons_zero, List.set_cons_succ]
      have hsz7 : w.heap.size ≤ (wg.alloc (.cells #[.int .i64 1, .int .u64 xs, .int .i64 xn, .int .i64 pl, .slice none 0 0] 55)).heap.size := Nat.le_trans hb.size hc7.size
      generalize wg.alloc (.cells #[.int .i64 1, .int .u64 xs, .int .i64 xn, .int .i64 pl, .slice none 0 0] 55) = w7 at *
      generalize wg.heap.size = g7 at *
      clear hg0 wg
      refine AllC.one 11 (by kernel_rfl) rfl ?_
      intro wg hg K hK
      have hown8 := own_below hown7 hg
      have hrow8 := hrow7.up hg (Nat.le_refl _)
      have hsz8 := Nat.le_trans hsz7 hg.size
      refine step_append_row rfl (.tmp 26) (.tmp 36) rfl w.heap.size elem_pk (by rfl) hown8 _ (by rfl) (by rfl) hrow8 (by simp [Value.oneCell']) (by unfold maxLen; omega) (by omega) (by omega) ?_
      intro A8 c8 w8 hown9 hg8 hwh
      have hc8 : Ch (fun i => (Value.slice Ao k co).ownBlock = some i) w5 w8 := (hc7.next hg).trans (Ch.of_own hg8)
      refine hK.out _ _ hc8 ?_
      have hb8 : Below w.heap.size w w8 := hbw w8 hc8
      clear hK K hg hg8 hwh hown8 hrow8 hown7 hrow7 hc7 hc8 hsz8 hsz7
      try simp only [Act.put, List.setIfInBounds_toArray, List.set_cons_zero, List.set_cons_succ]
      refine AllC.tail 12 (by rfl) (by kernel_rfl) ?_
      intro wt hwt
      simp only [List.drop_succ_cons, List.drop_zero]
      replace hown9 := own_below hown9 hwt
      have hb10 : Below w.heap.size w wt := Below.trans (B := w.heap.size) hb8 (hwt.mono hb8.size)
      clear hb8 hwt hbw hnx x0 x1 kX hown hb d0 d1
      go_wp2_with fail
      go_roundw
      case rel => exact ⟨k + 1, A8, c8, by omega, by go_num, rfl, by rw [hsn.out, pksC_append]; exact hown9, hb10⟩
      case measure => simp [intOf]; omega
    · obtain rfl : k = l.length := by omega
      rw [List.take_length] at hown
      go_wp2_with fail
      go_ret
      exact ⟨Ao, co, rfl, hown, hb⟩
end
end Go.Proofs.Ytpoiejgoongllaa
