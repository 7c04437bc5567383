/-
  Done and Chunks of a receiver.
-/
import Derived.Test.YtpoiejgoongllaaRead37
namespace Go.Proofs.Ytpoiejgoongllaa
section
set_option linter.unusedVariables false
set_option linter.unusedSimpArgs false
set_option linter.unnecessarySimpa false
open Go.RowKit
attribute [local go_sem ↓] Go.wp_at_zero Go.wp_at_succ

/-- the bytes of complete chunks -/
def cmpB (r : Rcv) (x : IdZ) : List Int := (r.comp x).getD []
def doneT (r : Rcv) (l : List IdZ) : List Int := l.flatMap (cmpB r)
theorem doneT_snoc (r : Rcv) (l : List IdZ) (k : Nat) (h : k < l.length) : doneT r (l.take (k + 1)) = doneT r (l.take k) ++ cmpB r l[k] := by
  unfold doneT; rw [List.take_succ_eq_append_getElem h, List.flatMap_append]; simp
theorem RcOk.blen {r : Rcv} (ok : RcOk r) {x : IdZ} {zs : List Int} (hx : r.comp x = some zs) (hi : x ∈ r.ids) : zs.length ≤ 8192 := by
  have h1 := (ok.comp x zs hx).1
  have h2 := (ok.size hi).2
  rw [← h1] at h2
  unfold idOf at h2
  simp only at h2
  omega
theorem doneT_len {r : Rcv} (ok : RcOk r) (k : Nat) (hk : k ≤ r.ids.length) : (doneT r (r.ids.take k)).length ≤ 8192 * k := by
  induction k with
  | zero => simp [doneT]
  | succ k ih =>
    rw [doneT_snoc r r.ids k (by omega), List.length_append]
    have h1 := ih (by omega)
    have h2 : (cmpB r r.ids[k]).length ≤ 8192 := by
      unfold cmpB
      cases hc : r.comp r.ids[k] with
      | none => simp
      | some zs => exact ok.blen hc (List.getElem_mem _)
    omega
theorem RcOk.some_ {r : Rcv} (ok : RcOk r) (hm : r.miss = []) {x : IdZ} (hx : x ∈ r.ids) : r.comp x = some (cmpB r x) := by
  rcases ok.all x hx with h | h
  · rw [hm] at h; cases h
  · unfold cmpB
    cases hc : r.comp x with
    | none => exact absurd hc h
    | some zs => rfl

set_option maxRecDepth 100000 in
set_option maxHeartbeats 1000000 in
theorem done37_no {base g M : Nat} {L : RcL} {r : Rcv} (w : World) (h : RcvIs w base g M L r) (hm : 0 < r.miss.length) :
    Calls Try.prog 31 #[.pointer (some ⟨g, 0, none⟩)] w fun e w' => e = .returned (.tuple #[.slice none 0 0, .bool false]) ∧ Grew w w' := by
  obtain ⟨c0, c1, c2, c3, c4, c5⟩ := h.cells
  have hmI : (0 : Int) < (r.miss.length : Int) := by omega
  go_enter Try.func31, Try.ntmps31
  go_wp2_with fail
  go_ret2
  exact ⟨rfl, Grew.refl _⟩

set_option maxRecDepth 100000 in
set_option maxHeartbeats 2000000 in
theorem done37_yes {base g M : Nat} {L : RcL} {r : Rcv} (w : World) (h : RcvIs w base g M L r) (ok : RcOk r) (hm : r.miss = []) :
    Calls Try.prog 31 #[.pointer (some ⟨g, 0, none⟩)] w fun e w' => ∃ A c, e = .returned (.tuple #[.slice A (doneT r r.ids).length c, .bool true]) ∧
      w'.ownsRow w.heap.size 5 1 (.slice A (doneT r r.ids).length c) (doneT r r.ids).length ((doneT r r.ids).map (.int .u8)) ∧ Grew w w' := by
  obtain ⟨i0, hi, hz0, hz1, hz2⟩ := info_parts (show (Try.prog.info? 5).map (fun i => (i.zero, i.size, i.bytes)) = some (some (.int .u8 0), 1, 1) from by kernel_rfl)
  obtain ⟨c0, c1, c2, c3, c4, c5⟩ := h.cells
  obtain ⟨b1, b2, b3, b4⟩ := ok.len
  have hml : r.miss.length = 0 := by rw [hm]; rfl
  rw [hml] at c4
  have hids := own_row h.ids
  have H := Lib.hid h
  have OK := Lib.hid ok
  have HM := Lib.hid hm
  clear h ok hm hml b3 b4
  generalize L.ai = Ai at *
  generalize L.am = Am at *
  go_enter Try.func31, Try.ntmps31
  go_wp2_with (at_make; refine wpList_make_own _ rfl (.const (.int .i64 0)) (.tmp 17) 38 rfl w.heap.size 5 i0 (.int .u8 0) 1 Try.underlying38 hi hz0 hz1 .i64 .i64 _ r.n rfl rfl rfl (by rw [hz2]; omega) (by unfold maxLen; omega) (Nat.le_refl _) ?_; intro w1 hown hgrow; have hg1 : Grew w w1 := (Below.refl _ _).grown hgrow (Nat.le_refl _) (by simp); have e1 := cell_up hg1 c1)
  go_loopw [4, 25] (fun v i wr => ∃ (k : Nat) (out : List Int) (Ao : Option Addr) (co : Nat), k ≤ r.ids.length ∧ i = .int .i64 k ∧ v = .slice Ao out.length co ∧ Hid (out = doneT r (r.ids.take k)) ∧ out.length ≤ 8192 * k ∧ wr.ownsRow w.heap.size 5 1 (.slice Ao out.length co) out.length (out.map (.int .u8)) ∧ Below w.heap.size w wr) (fun _ i _ => r.ids.length - (intOf i).toNat)
  case atStart => exact ⟨0, [], _, r.n, Nat.zero_le _, rfl, rfl, Lib.hid rfl, Nat.zero_le _, hown, hg1⟩
  case round =>
    clear hown hg1 e1 hgrow w1
    obtain ⟨k, out, Ao, co, hk, rfl, rfl, HO, hol, hown, hb⟩ := hrel
    by_cases hlt : k < r.ids.length
    · obtain ⟨ad, rfl, hbl, d0, d1⟩ := ids_at (hids.below hb (Nat.le_refl _)) hlt
      have hwf := OK.out.wf _ (List.getElem_mem hlt)
      have hcs := OK.out.some_ HM.out (List.getElem_mem hlt)
      have hbl8 := OK.out.blen hcs (List.getElem_mem hlt)
      have hsn := Lib.hid (doneT_snoc r r.ids k hlt)
      generalize r.ids[k] = x at *
      obtain ⟨xs, xn⟩ := x
      simp only at d0 d1 hsn
      have hga := grew_alloc wr (.cells #[.int .u64 xs, .int .i64 xn] 53)
      have kX := Blk.new wr 53 #[.int .u64 xs, .int .i64 xn]
      replace hown := own_below hown hga
      replace hb : Below w.heap.size w (wr.alloc (.cells #[.int .u64 xs, .int .i64 xn] 53)) := Below.trans (B := w.heap.size) hb (hga.mono hb.size)
      clear hga
      go_upto_region 7 with (fail)
      generalize wr.alloc (.cells #[.int .u64 xs, .int .i64 xn] 53) = w5 at *
      generalize wr.heap.size = gx at *
      have x0 := (kX.cell 0).trans (show _ = some (.int .u64 xs) from rfl)
      have x1 := (kX.cell 1).trans (show _ = some (.int .i64 xn) from rfl)
      have hnx : (Value.slice Ao out.length co).ownBlock ≠ some gx := own_blk_ne hown kX (by decide)
      have hbw : ∀ w', Ch (fun i => (Value.slice Ao out.length co).ownBlock = some i) w5 w' → Grew w w' := fun w' h => Below.trans (B := w.heap.size) hb (h.below hb.size (fun i hi => own_lt hown i hi))
      have HC := Lib.hid (fun W (hg : Grew w W) => (H.out.of hg).comp _ _ hcs)
      have HCs := Lib.hid hcs
      clear hcs
      refine wp_region_cls (Ch (fun i => (Value.slice Ao out.length co).ownBlock = some i) w5) 8 (by kernel_rfl) ?_
      have hc0 := (Ch.refl (fun i => (Value.slice Ao out.length co).ownBlock = some i) w5).drew
      refine AllC.head 0 7 (fuel := 2) (by first | exact fun h k => Grew.trans h k | exact fun h k => cls_grew h k) (hc0) (by rfl) (by kernel_rfl) ?_
      simp only [List.take_succ_cons, List.take_zero, List.drop_succ_cons, List.drop_zero]
      repeat (first
        | (refine HeadC.val (by rfl) ?_
           apply Exists.intro
           refine ⟨fun w' hw' => ?_, ?_⟩
           · (have hf_0 := (H.out.of (hbw w' hw')).cells.2.2.1; have hf_1 := (H.out.of (hbw w' hw')).getc' hwf HCs.out; have hf_2 := hw'.cell x0 hnx; have hf_3 := hw'.cell x1 hnx; (go_simp) <;> (try go_ints) <;> with_reducible rfl)
           try simp only [Act.put, List.setIfInBounds_toArray, List.set_cons_zero, List.set_cons_succ])
        | (refine HeadC.shut (by rfl) ?_
           try simp only [Act.put, List.setIfInBounds_toArray, List.set_cons_zero, List.set_cons_succ]))
      refine HeadC.nil ?_
      refine AllC.one 7 (by kernel_rfl) rfl ?_
      intro wg hg K hK
      have hg0 := (grew_drew w5).trans hg
      have hown8 := own_below hown hg0
      have hcr := own_row (HC.out wg (hbw wg (Ch.of_below hg0)))
      have hws := (hbw wg (Ch.of_below hg0)).size
      have hln : Hid ((out ++ cmpB r (xs, xn)).length = out.length + (cmpB r (xs, xn)).length) := Lib.hid List.length_append
      unfold RcL.cv at hcr
      generalize (L.C (xs, xn)).1 = cA at *
      generalize (L.C (xs, xn)).2 = cc at *
      generalize cmpB r (xs, xn) = cz at *
      refine step_append_row rfl (.tmp 29) (.tmp 35) rfl w.heap.size elem_u8 (by rfl) hown8 _ (by rfl) (by simp) hcr (ones_u8 cz) (by unfold maxLen; omega) (by omega) (by omega) ?_
      intro A8 c8 w8 hown9 hg8 hwh
      have hc8 : Ch (fun i => (Value.slice Ao out.length co).ownBlock = some i) w5 w8 := (Ch.of_below hg0).trans (Ch.of_own hg8)
      refine hK.out _ _ hc8 ?_
      have hb8 : Below w.heap.size w w8 := hbw w8 hc8
      clear hK K hg hg8 hwh hown8 hc8 hg0 hc0 hcr hws HC
      try simp only [Act.put, List.setIfInBounds_toArray, List.set_cons_zero, List.set_cons_succ]
      refine AllC.tail 8 (by rfl) (by kernel_rfl) ?_
      intro wt hwt
      simp only [List.drop_succ_cons, List.drop_zero]
      replace hown9 := own_below hown9 hwt
      have hb10 : Below w.heap.size w wt := Below.trans (B := w.heap.size) hb8 (hwt.mono hb8.size)
      rw [← List.map_append] at hown9
      rw [← hln.out] at hown9 ⊢
      have hol2 : (out ++ cz).length ≤ 8192 * (k + 1) := by rw [hln.out]; omega
      have HO2 : Hid (out ++ cz = doneT r (r.ids.take (k + 1))) := Lib.hid (by rw [hsn.out, HO.out])
      generalize out ++ cz = o2 at *
      clear hb8 hwt hbw hnx x0 x1 kX hown hb d0 d1 HCs HO hsn hln hbl8
      go_wp2_with fail
      go_roundw
      case rel => exact ⟨k + 1, o2, A8, c8, by omega, by go_num, rfl, HO2, hol2, hown9, hb10⟩
      case measure => simp [intOf]; omega
    · obtain rfl : k = r.ids.length := by omega
      rw [List.take_length] at HO
      go_wp2_with fail
      go_ret2
      rw [← HO.out]
      exact ⟨Ao, co, rfl, hown, hb⟩
end
end Go.Proofs.Ytpoiejgoongllaa
