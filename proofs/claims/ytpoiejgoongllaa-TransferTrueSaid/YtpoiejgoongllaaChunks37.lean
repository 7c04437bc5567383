/-
  Chunks of a receiver.
-/
import Derived.Test.YtpoiejgoongllaaStart37
namespace Go.Proofs.Ytpoiejgoongllaa
section
set_option linter.unusedVariables false
set_option linter.unusedSimpArgs false
set_option linter.unnecessarySimpa false
open Go.RowKit
attribute [local go_sem ↓] Go.wp_at_zero Go.wp_at_succ

/-- a chunk without its address -/
def ChZ.z (c : ChZ) : IdZ × List Int := (c.id, c.p.zs)
def gotZ (r : Rcv) : List (IdZ × List Int) := r.recv.map fun x => (x, cmpB r x)
/-- what was received is of the content -/
def RecvIn (r : Rcv) : Prop := ∀ x ∈ r.recv, x ∈ r.ids
theorem RecvIn.take {r : Rcv} (h : RecvIn r) (ok : RcOk r) (k : Int) (x : IdZ) (f : Int) (zs : List Int) : RecvIn (takeR r k x f zs).1 := by
  unfold takeR
  split
  · rename_i ht
    obtain ⟨_, _, _, hx, _, _⟩ := ht
    split
    · exact h
    · split
      · intro y hy
        rcases List.mem_append.1 hy with hy | hy
        · exact h y hy
        · rw [List.mem_singleton] at hy; subst hy; exact ok.sub _ hx
      · exact h
  · exact h
theorem recvIn_recvR (n : Nat) (ids : List IdZ) (cs : List ChZ) : RecvIn (recvR n ids cs) := fun x hx => by cases hx
def ChunksRes (r : Rcv) (w : World) (e : Ending) (w' : World) : Prop := ∃ (A : Option Addr) (c : Nat) (qs : List ChZ), e = .returned (.slice A qs.length c) ∧ qs.map ChZ.z = gotZ r ∧
  w'.ownsRow w.heap.size 64 3 (.slice A qs.length c) qs.length (chsC qs) ∧ ChsIn w' qs ∧ Grew w w'
set_option maxRecDepth 100000 in
set_option maxHeartbeats 2000000 in
theorem chunks37_any {base g M : Nat} {L : RcL} {r : Rcv} (w : World) (h : RcvIs w base g M L r) (ok : RcOk r) (hin : RecvIn r) :
    Calls Try.prog 25 #[.pointer (some ⟨g, 0, none⟩)] w (ChunksRes r w) := by
  obtain ⟨c0, c1, c2, c3, c4, c5⟩ := h.cells
  have hrow := own_row h.recv
  have hrn := ok.len.2.2.2
  have HRow := Lib.hid hrow
  have H := Lib.hid h
  have OK := Lib.hid ok
  have HI := Lib.hid hin
  clear h ok hrow hin c0 c1 c2 c3 c4
  generalize L.ar = Ar at *
  go_enter Try.func25, Try.ntmps25
  go_wp2_with fail
  go_loopw [3, 11] (fun v i wr => ∃ (k : Nat) (qs : List ChZ) (Ao : Option Addr) (co : Nat), k ≤ r.recv.length ∧ qs.length ≤ k ∧ i = .int .i64 k ∧ v = .slice Ao qs.length co ∧ Hid (qs.map ChZ.z = (gotZ r).take k) ∧ wr.ownsRow w.heap.size 64 3 (.slice Ao qs.length co) qs.length (chsC qs) ∧ Hid (Txs wr w.heap.size (qs.map ChZ.p)) ∧ Hid (∀ q ∈ qs, q.p.zs.length ≤ q.p.cap ∧ q.p.zs.length ≤ 8192) ∧ Below w.heap.size w wr) (fun _ i _ => r.recv.length - (intOf i).toNat)
  case atStart => exact ⟨0, [], none, 0, Nat.zero_le _, Nat.zero_le _, rfl, rfl, Lib.hid (by simp), World.ownsRow_nil _ _ _ _, Lib.hid Txs.nil, Lib.hid (fun q hq => by cases hq), Below.refl _ _⟩
  case round =>
    obtain ⟨k, qs, Ao, co, hk, hqk, rfl, rfl, HQ, hown, HT, HC, hb⟩ := hrel
    by_cases hlt : k < r.recv.length
    · obtain ⟨ad, hA, hbl, d0, d1⟩ := ids_at (HRow.out.below hb (Nat.le_refl _)) hlt
      have hsn := Lib.hid (show (gotZ r).take (k + 1) = (gotZ r).take k ++ [(r.recv[k], cmpB r r.recv[k])] from by
        unfold gotZ
        rw [List.take_succ_eq_append_getElem (by rw [List.length_map]; exact hlt), List.getElem_map])
      have hmem := List.getElem_mem hlt
      generalize r.recv[k] = x at *
      have hcx : ∃ zs, r.comp x = some zs := by
        cases hc : r.comp x with
        | none => exact absurd hc (OK.out.got x hmem)
        | some zs => exact ⟨zs, rfl⟩
      obtain ⟨zs, hzs⟩ := hcx
      have hzl := OK.out.blen hzs (HI.out x hmem)
      have hwf := OK.out.wf x (HI.out x hmem)
      have hcm : cmpB r x = zs := by unfold cmpB; rw [hzs]; rfl
      rw [hcm] at hsn
      clear hmem hcm
      obtain ⟨xs, xn⟩ := x
      simp only at d0 d1 hsn
      have HZS := Lib.hid hzs
      have HWF := Lib.hid hwf
      clear hzs hwf
      have hga := grew_alloc wr (.cells #[.int .u64 xs, .int .i64 xn] 53)
      have kX := Blk.new wr 53 #[.int .u64 xs, .int .i64 xn]
      replace hown := own_below hown hga
      have HTa := Lib.hid (HT.out.of hga)
      have hs0 := hb.size
      replace hb : Below w.heap.size w (wr.alloc (.cells #[.int .u64 xs, .int .i64 xn] 53)) := Below.trans (B := w.heap.size) hb (hga.mono hb.size)
      have hs1 := hga.size
      clear hga
      subst hA
      go_upto_region 5 with (fail)
      generalize wr.alloc (.cells #[.int .u64 xs, .int .i64 xn] 53) = w5 at *
      generalize wr.heap.size = gx at *
      have x0 := (kX.cell 0).trans (show _ = some (.int .u64 xs) from rfl)
      have x1 := (kX.cell 1).trans (show _ = some (.int .i64 xn) from rfl)
      have hnx : (Value.slice Ao qs.length co).ownBlock ≠ some gx := own_blk_ne hown kX (by decide)
      have hbw : ∀ w', Ch (fun i => (Value.slice Ao qs.length co).ownBlock = some i) w5 w' → Grew w w' := fun w' h => Below.trans (B := w.heap.size) hb (h.below hb.size (fun i hi => own_lt hown i hi))
      refine wp_region_cls (Ch (fun i => (Value.slice Ao qs.length co).ownBlock = some i) w5) 12 (by kernel_rfl) ?_
      have hc0 := (Ch.refl (fun i => (Value.slice Ao qs.length co).ownBlock = some i) w5).drew
      refine AllC.head 0 8 (fuel := 5) (by first | exact fun h k => Grew.trans h k | exact fun h k => cls_grew h k) (hc0) (by rfl) (by kernel_rfl) ?_
      simp only [List.take_succ_cons, List.take_zero, List.drop_succ_cons, List.drop_zero]
      repeat (first
        | (refine HeadC.val (by rfl) ?_
           apply Exists.intro
           refine ⟨fun w' hw' => ?_, ?_⟩
           · (have hf_0 := (H.out.of (hbw w' hw')).cells.2.2.1; have hf_1 := (H.out.of (hbw w' hw')).getc' HWF.out HZS.out; have hf_2 := hw'.cell x0 hnx; have hf_3 := hw'.cell x1 hnx; (go_simp) <;> (try go_ints) <;> with_reducible rfl)
           try simp only [Act.put, List.setIfInBounds_toArray, List.set_cons_zero, List.set_cons_succ])
        | (refine HeadC.shut (by rfl) ?_
           try simp only [Act.put, List.setIfInBounds_toArray, List.set_cons_zero, List.set_cons_succ]))
      refine HeadC.nil ?_
      refine AllC.one 8 (by kernel_rfl) rfl ?_
      intro wg hg K hK
      go_simp
      have hg0 := (grew_drew w5).trans hg
      have hwr : Grew w wg := hbw _ (Ch.of_below hg0)
      refine (cloneB_any _ _ wg.heap.size zs wg (own_row ((H.out.of hwr).comp _ _ HZS.out)) (Nat.le_refl _) (by omega)).mono ?_
      rintro e w6 ⟨A6, c6, rfl, hown6, hb6⟩
      have hg6 := hg0.trans hb6
      have hc6 : Ch (fun i => (Value.slice Ao qs.length co).ownBlock = some i) w5 w6 := Ch.of_below hg6
      have hs2 := hg0.size
      have hs3 := hb6.size
      refine hK.out _ _ hc6 ?_
      clear hK K hg hc0 hg0 hb6 hwr
      generalize wg.heap.size = B6 at *
      clear wg
      try simp only [Act.put, List.setIfInBounds_toArray, List.set_cons_zero, List.set_cons_succ]
      refine AllC.head 9 1 (fuel := 3) (by first | exact fun h k => Grew.trans h k | exact fun h k => cls_grew h k) (hc6) (by rfl) (by kernel_rfl) ?_
      simp only [List.take_succ_cons, List.take_zero, List.drop_succ_cons, List.drop_zero]
      repeat (first
        | (refine HeadC.val (by rfl) ?_
           apply Exists.intro
           refine ⟨fun w' hw' => ?_, ?_⟩
           · ((go_simp) <;> (try go_ints) <;> with_reducible rfl)
           try simp only [Act.put, List.setIfInBounds_toArray, List.set_cons_zero, List.set_cons_succ])
        | (refine HeadC.shut (by rfl) ?_
           try simp only [Act.put, List.setIfInBounds_toArray, List.set_cons_zero, List.set_cons_succ]))
      refine HeadC.nil ?_
      refine AllC.one 10 (by kernel_rfl) rfl ?_
      intro wg hg K hK
      go_simp
      have hga := hg.trans (grew_alloc wg (.cells #[.int .u64 xs, .int .i64 xn, .slice A6 zs.length c6] 64))
      have hg7 := hg6.trans hga
      have hc7 : Ch (fun i => (Value.slice Ao qs.length co).ownBlock = some i) w5 (wg.alloc (.cells #[.int .u64 xs, .int .i64 xn, .slice A6 zs.length c6] 64)) := Ch.of_below hg7
      have hown7 := own_below hown hg7
      have hown67 := own_below hown6 hga
      have hrow7 := Blk.row (Blk.new wg 64 #[.int .u64 xs, .int .i64 xn, .slice A6 zs.length c6])
      have hs7 := hg7.size
      refine hK.out _ _ hc7 ?_
      clear hK K hg hga hown6 hc6 hg6
      try simp only [Act.put, List.setIfInBounds_toArray, List.set_cons_zero, List.set_cons_succ]
      generalize wg.alloc (.cells #[.int .u64 xs, .int .i64 xn, .slice A6 zs.length c6] 64) = w7 at *
      generalize wg.heap.size = g7 at *
      clear wg
      refine AllC.one 11 (by kernel_rfl) rfl ?_
      intro wg hg K hK
      have hown8 := own_below hown7 hg
      have hrow8 := hrow7.up hg (Nat.le_refl _)
      have hs8 := hg.size
      have hTx8 := (HTa.out.of hg7).of hg
      have hown68 := own_below hown67 hg
      refine step_append_row rfl (.tmp 15) (.tmp 25) rfl w.heap.size elem_chunk (by rfl) hown8 _ (by rfl) (by rfl) hrow8 (by simp [Value.oneCell']) (by unfold maxLen; omega) (by omega) (by omega) ?_
      intro A8 c8 w8 hown9 hg8 hwh
      have hc8 : Ch (fun i => (Value.slice Ao qs.length co).ownBlock = some i) w5 w8 := (hc7.next hg).trans (Ch.of_own hg8)
      refine hK.out _ _ hc8 ?_
      have hb8 : Below w.heap.size w w8 := hbw w8 hc8
      have hTx9 := (hTx8.ch (Ch.of_own hg8) (own_noBytes hown8 (by decide))).snoc (p := ⟨A6, c6, zs⟩) ((Tx.own hown68).mono (by omega) |>.ch (Ch.of_own hg8) (own_noBytes hown8 (by decide)))
      have hcap6 := (own_cap hown68).1
      clear hK K hg hg8 hwh hown8 hrow8 hown7 hrow7 hc7 hc8 hTx8 hown67 hown68 hg7
      try simp only [Act.put, List.setIfInBounds_toArray, List.set_cons_zero, List.set_cons_succ]
      refine AllC.tail 12 (by rfl) (by kernel_rfl) ?_
      intro wt hwt
      simp only [List.drop_succ_cons, List.drop_zero]
      replace hown9 := own_below hown9 hwt
      have hb10 : Below w.heap.size w wt := Below.trans (B := w.heap.size) hb8 (hwt.mono hb8.size)
      have HT10 : Hid (Txs wt w.heap.size ((qs ++ [(⟨(xs, xn), ⟨A6, c6, zs⟩⟩ : ChZ)]).map ChZ.p)) := Lib.hid (by rw [List.map_append]; exact hTx9.of hwt)
      have HC10 : Hid (∀ q ∈ qs ++ [(⟨(xs, xn), ⟨A6, c6, zs⟩⟩ : ChZ)], q.p.zs.length ≤ q.p.cap ∧ q.p.zs.length ≤ 8192) := Lib.hid (fun q hq => by
        rcases List.mem_append.1 hq with h | h
        · exact HC.out q h
        · rw [List.mem_singleton] at h; subst h; exact ⟨hcap6, hzl⟩)
      have HQ10 : Hid ((qs ++ [(⟨(xs, xn), ⟨A6, c6, zs⟩⟩ : ChZ)]).map ChZ.z = (gotZ r).take (k + 1)) := Lib.hid (by rw [hsn.out, List.map_append, HQ.out]; rfl)
      have HO10 : Hid (wt.ownsRow w.heap.size 64 3 (.slice A8 (qs ++ [(⟨(xs, xn), ⟨A6, c6, zs⟩⟩ : ChZ)]).length c8) (qs ++ [(⟨(xs, xn), ⟨A6, c6, zs⟩⟩ : ChZ)]).length (chsC (qs ++ [(⟨(xs, xn), ⟨A6, c6, zs⟩⟩ : ChZ)]))) := Lib.hid (by rw [List.length_append, chsC_append]; exact hown9)
      clear hown9 hb8 hwt hbw hnx x0 x1 kX hown hb hTx9 hcap6
      go_wp2_with fail
      go_roundw
      case rel => exact ⟨k + 1, qs ++ [⟨(xs, xn), ⟨A6, c6, zs⟩⟩], A8, c8, by omega, by rw [List.length_append, List.length_singleton]; omega, by go_num, by rw [List.length_append]; rfl, HQ10, HO10.out, HT10, HC10, hb10⟩
      case measure => simp [intOf]; omega
    · obtain rfl : k = r.recv.length := by omega
      go_wp2_with fail
      go_ret
      refine ⟨Ao, co, qs, rfl, by rw [HQ.out]; exact List.take_of_length_le (by unfold gotZ; rw [List.length_map]; exact Nat.le_refl _), hown, fun q hq => ⟨(HT.out q.p (List.mem_map_of_mem hq)).row, (HC.out q hq).1, by have := (HC.out q hq).2; omega⟩, hb⟩
end
end Go.Proofs.Ytpoiejgoongllaa
