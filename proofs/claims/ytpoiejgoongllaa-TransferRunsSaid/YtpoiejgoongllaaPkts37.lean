/-
  RefAsk37, RefServe37, Pkt37, Packets37.
-/
import Derived.Test.YtpoiejgoongllaaRefR37
import Derived.Test.YtpoiejgoongllaaChan37
import Derived.Test.YtpoiejgoongllaaRefDone37
import Derived.Test.YtpoiejgoongllaaServe37
import Derived.Test.YtpoiejgoongllaaRefCar37
import Derived.Test.YtpoiejgoongllaaRunAll37
import Derived.Test.YtpoiejgoongllaaSome37w
namespace Go.Proofs.Ytpoiejgoongllaa
/- RefAsk37:
  stockyardref37.Missing, Ask.
-/
section
set_option linter.unusedVariables false
set_option linter.unusedSimpArgs false
set_option linter.unnecessarySimpa false
open Go.RowKit
attribute [local go_sem ↓] Go.wp_at_zero Go.wp_at_succ

def RfIdsRes (R : RfR) (w : World) (e : Ending) (w' : World) : Prop := ∃ A c, e = .returned (.slice A R.pre.length c) ∧ w'.ownsRow w.heap.size 53 2 (.slice A R.pre.length c) R.pre.length (idsC (R.pre.map ChZ.id)) ∧ Grew w w'
theorem pre_snoc (l : List ChZ) (k : Nat) (h : k < l.length) : idsC ((l.take (k + 1)).map ChZ.id) = idsC ((l.take k).map ChZ.id) ++ [.int .u64 l[k].id.1, .int .i64 l[k].id.2] := by
  rw [List.take_succ_eq_append_getElem h, List.map_append]; simp [idsC, idC]
set_option maxRecDepth 100000 in
set_option maxHeartbeats 2000000 in
theorem refMissing37_any (L : RfL) (R : RfR) (w : World) (h : RfIs w L R) (ok : RfOk R) : Calls Try.prog 66 #[rfV L R] w (RfIdsRes R w) := by
  have g0 := grew_alloc w (.cells #[.int .i64 R.n, .slice L.ai R.ids.length L.ci, .slice L.ah R.had.length L.ch, .slice L.ag R.got.length L.cg, .slice L.ap R.pre.length L.cp] 71)
  have kR := Blk.new w 71 #[.int .i64 R.n, .slice L.ai R.ids.length L.ci, .slice L.ah R.had.length L.ch, .slice L.ag R.got.length L.cg, .slice L.ap R.pre.length L.cp]
  have c4 := (kR.cell 4).trans (show _ = some (.slice L.ap R.pre.length L.cp) from rfl)
  have hn := ok.npre
  have HG := Lib.hid g0
  have HP := Lib.hid (h.up g0).rpre
  have hs0 := g0.size
  clear h ok g0 kR
  unfold rfV
  go_enter Try.func66, Try.ntmps66
  go_wp2_with fail
  generalize w.alloc (.cells #[.int .i64 R.n, .slice L.ai R.ids.length L.ci, .slice L.ah R.had.length L.ch, .slice L.ag R.got.length L.cg, .slice L.ap R.pre.length L.cp] 71) = w1 at *
  generalize hgb : w.heap.size = gb at *
  have HGB := Lib.hid hgb
  clear hgb
  go_loopw [3, 4] (fun s v wr => ∃ (k : Nat) (A : Option Addr) (c : Nat), k ≤ R.pre.length ∧ v = .int .i64 k ∧ s = .slice A k c ∧ Hid (wr.ownsRow w1.heap.size 53 2 (.slice A k c) k (idsC ((R.pre.take k).map ChZ.id)) ∧ Grew w1 wr)) (fun _ v _ => R.pre.length - (intOf v).toNat)
  case atStart => exact ⟨0, none, 0, Nat.zero_le _, rfl, rfl, Lib.hid ⟨World.ownsRow_nil _ _ _ _, Grew.refl _⟩⟩
  case round =>
    obtain ⟨k, A, c, hk, rfl, rfl, HS⟩ := hrel
    obtain ⟨hown, hg⟩ := HS.out
    have c4r := cell_up hg c4
    by_cases hlt : k < R.pre.length
    · obtain ⟨ad, hA, hbl, d0, d1, d2⟩ := chs_at ((HP.out.up hg (Nat.le_refl _))) hlt
      have hsn := Lib.hid (pre_snoc R.pre k hlt)
      generalize R.pre[k] = x at *
      obtain ⟨⟨x1, x2⟩, xp⟩ := x
      simp only at d0 d1 hsn
      have hga := grew_alloc wr (.cells #[.int .u64 x1, .int .i64 x2] 53)
      have HR := Lib.hid (Blk.row (Blk.new wr 53 #[.int .u64 x1, .int .i64 x2]))
      have hO := own_below hown hga
      have hsz : w1.heap.size ≤ (wr.alloc (.cells #[.int .u64 x1, .int .i64 x2] 53)).heap.size := Nat.le_trans hg.size hga.size
      have HGa := Lib.hid (Grew.trans hg hga)
      clear hown hg hga d2
      go_wp2_with (at_builtin; refine wpList_append_row rfl (.tmp 12) (.tmp 19) rfl w1.heap.size elem_id (by rfl) hO _ (by rfl) (by rfl) HR.out (by simp [Value.oneCell']) (by unfold maxLen; omega) (by omega) hsz ?_; intro A8 c8 w8 hown8 hg8 _)
      have hgg : Grew w1 w8 := Below.trans (B := w1.heap.size) HGa.out (below_grown hg8 hsz (own_lt hO))
      rw [← hsn.out] at hown8
      have HS8 := Lib.hid (And.intro hown8 hgg)
      clear hg8 hO HS hown8 hgg
      go_roundw
      case rel => exact ⟨k + 1, by omega, by go_num, A8, c8, ⟨rfl, rfl, rfl⟩, by rw [← List.map_take]; exact HS8⟩
      case measure => simp [intOf]; omega
    · obtain rfl : k = R.pre.length := by omega
      rw [List.take_length] at hown
      clear HS
      go_wp2_with fail
      go_ret
      exact ⟨A, c, rfl, own_mono hown (by rw [HGB.out]; exact hs0), Grew.trans HG.out hg⟩

/-- what Ask returns -/
def rfAsk (R : RfR) (m : Nat) : List Pk := (R.pre.take m).map fun c => ⟨1, c.id, (c.p.zs.length : Int), ⟨none, 0, []⟩⟩
theorem rfAsk_snoc (R : RfR) (k : Nat) (h : k < R.pre.length) : pksC (rfAsk R (k + 1)) = pksC (rfAsk R k) ++ pkC ⟨1, R.pre[k].id, (R.pre[k].p.zs.length : Int), ⟨none, 0, []⟩⟩ := by
  unfold rfAsk
  rw [List.take_succ_eq_append_getElem h, List.map_append, pksC_append]; rfl
theorem rfAsk_length (R : RfR) (k : Nat) (h : k ≤ R.pre.length) : (rfAsk R k).length = k := by unfold rfAsk; rw [List.length_map, List.length_take]; omega
def RfAskRes (R : RfR) (most : Int) (w : World) (e : Ending) (w' : World) : Prop := ∃ (m : Nat) (A : Option Addr) (c : Nat), e = .returned (.slice A m c) ∧ m ≤ R.pre.length ∧ ((m : Int) = most ∨ (most < 0 ∧ m = 0) ∨ (m = R.pre.length ∧ (R.pre.length : Int) ≤ most)) ∧ w'.ownsRow w.heap.size 55 5 (.slice A m c) m (pksC (rfAsk R m)) ∧ Grew w w'
set_option maxRecDepth 100000 in
set_option maxHeartbeats 2000000 in
theorem refAsk37_any (L : RfL) (R : RfR) (most : Int) (w : World) (h : RfIs w L R) (ok : RfOk R) : Calls Try.prog 36 #[rfV L R, .int .i64 most] w (RfAskRes R most w) := by
  have g0 := grew_alloc w (.cells #[.int .i64 R.n, .slice L.ai R.ids.length L.ci, .slice L.ah R.had.length L.ch, .slice L.ag R.got.length L.cg, .slice L.ap R.pre.length L.cp] 71)
  have kR := Blk.new w 71 #[.int .i64 R.n, .slice L.ai R.ids.length L.ci, .slice L.ah R.had.length L.ch, .slice L.ag R.got.length L.cg, .slice L.ap R.pre.length L.cp]
  have c4 := (kR.cell 4).trans (show _ = some (.slice L.ap R.pre.length L.cp) from rfl)
  have hn := ok.npre
  have HG := Lib.hid g0
  have HP := Lib.hid (h.up g0).rpre
  have hs0 := g0.size
  have hs1 : w.heap.size < (w.alloc (.cells #[.int .i64 R.n, .slice L.ai R.ids.length L.ci, .slice L.ah R.had.length L.ch, .slice L.ag R.got.length L.cg, .slice L.ap R.pre.length L.cp] 71)).heap.size := kR.lt
  clear h ok g0 kR
  unfold rfV
  go_enter Try.func36, Try.ntmps36
  go_wp2_with fail
  generalize w.alloc (.cells #[.int .i64 R.n, .slice L.ai R.ids.length L.ci, .slice L.ah R.had.length L.ch, .slice L.ag R.got.length L.cg, .slice L.ap R.pre.length L.cp] 71) = w1 at *
  generalize hgb : w.heap.size = gb at *
  have HGB := Lib.hid hgb
  clear hgb
  go_loopw [5, 6] (fun s v wr => ∃ (k : Nat) (A : Option Addr) (c : Nat), k ≤ R.pre.length ∧ ((k : Int) ≤ most ∨ k = 0) ∧ v = .int .i64 k ∧ s = .slice A k c ∧ Hid (wr.ownsRow w1.heap.size 55 5 (.slice A k c) k (pksC (rfAsk R k)) ∧ Grew w1 wr)) (fun _ v _ => R.pre.length - (intOf v).toNat)
  case atStart => exact ⟨0, none, 0, Nat.zero_le _, .inr rfl, rfl, rfl, Lib.hid ⟨World.ownsRow_nil _ _ _ _, Grew.refl _⟩⟩
  case round =>
    obtain ⟨k, A, c, hk, hkm, rfl, rfl, HS⟩ := hrel
    obtain ⟨hown, hg⟩ := HS.out
    have c4r := cell_up hg c4
    by_cases hlt : k < R.pre.length
    · by_cases hlm : (k : Int) < most
      · obtain ⟨ad, hA, hbl, d0, d1, d2⟩ := chs_at ((HP.out.up hg (Nat.le_refl _))) hlt
        have hsn := Lib.hid (rfAsk_snoc R k hlt)
        generalize R.pre[k] = x at *
        obtain ⟨⟨x1, x2⟩, ⟨xA, xc, xz⟩⟩ := x
        simp only at d0 d1 d2 hsn
        have hnb : ¬ (fun i => (Value.slice A k c).ownBlock = some i) gb := fun h => by have := own_lt hown _ h; omega
        have hna : ¬ (fun i => (Value.slice A k c).ownBlock = some i) (ad.add (k * 3)).block := fun h => by have := own_lt hown _ h; rw [add_block] at this; omega
        have HGw := Lib.hid hg
        have HKM : Hid (((k : Int) + 1) ≤ most) := Lib.hid (by omega)
        clear hkm HS hg
        go_upto_region 5 with (fail)
        refine wp_region_cls (Ch (fun i => (Value.slice A k c).ownBlock = some i) wr) 17 (by kernel_rfl) ?_
        have hc0 := (Ch.refl (fun i => (Value.slice A k c).ownBlock = some i) wr).drew
        refine AllC.head 0 15 (fuel := 3) (by first | exact fun h k => Grew.trans h k | exact fun h k => cls_grew h k) (hc0) (by rfl) (by kernel_rfl) ?_
        simp only [List.take_succ_cons, List.take_zero, List.drop_succ_cons, List.drop_zero]
        repeat (first
          | (refine HeadC.val (by rfl) ?_
             apply Exists.intro
             refine ⟨fun w' hw' => ?_, ?_⟩
             · (have hf_0 := hw'.cell c4r hnb; have hf_1 := hw'.cell d0 hna; have hf_2 := hw'.cell d1 hna; have hf_3 := hw'.cell d2 hna; (go_simp) <;> (try go_ints) <;> with_reducible rfl)
             try simp only [Act.put, List.setIfInBounds_toArray, List.set_cons_zero, List.set_cons_succ])
          | (refine HeadC.shut (by rfl) ?_
             try simp only [Act.put, List.setIfInBounds_toArray, List.set_cons_zero, List.set_cons_succ]))
        refine HeadC.nil ?_
        refine AllC.one 15 (by kernel_rfl) rfl ?_
        intro wg hg K hK
        go_simp
        have hg1 := (grew_drew wr).trans hg
        have hga := hg1.trans (grew_alloc wg (.cells #[.int .i64 1, .int .u64 x1, .int .i64 x2, .int .i64 xz.length, .slice none 0 0] 55))
        have hrow := Blk.row (Blk.new wg 55 #[.int .i64 1, .int .u64 x1, .int .i64 x2, .int .i64 xz.length, .slice none 0 0])
        refine hK.out _ _ (Ch.of_below hga) ?_
        clear hK K hg1 hc0 hg
        try simp only [Act.put, List.setIfInBounds_toArray, List.set_cons_zero, List.set_cons_succ]
        generalize wg.alloc (.cells #[.int .i64 1, .int .u64 x1, .int .i64 x2, .int .i64 xz.length, .slice none 0 0] 55) = w6 at *
        generalize wg.heap.size = g6 at *
        clear wg
        refine AllC.one 16 (by kernel_rfl) rfl ?_
        intro wg hg2 K hK
        have hgb := hga.trans hg2
        have hO := own_below hown hgb
        have hsz := Nat.le_trans HGw.out.size hgb.size
        refine step_append_row rfl (.tmp 19) (.tmp 34) rfl w1.heap.size elem_pk (by rfl) hO _ (by rfl) (by rfl) (hrow.up hg2 (Nat.le_refl _)) (ones_pk ⟨1, (x1, x2), (xz.length : Int), ⟨none, 0, []⟩⟩) (by unfold maxLen; omega) (by omega) hsz ?_
        intro A8 c8 w8 hown8 hg8 _
        have hc8 := (Ch.of_below (S := fun i => (Value.slice A k c).ownBlock = some i) hgb).trans (Ch.of_own hg8)
        have hb8 : Grew w1 w8 := Below.trans (B := w1.heap.size) (Grew.trans HGw.out hgb) (below_grown hg8 hsz (own_lt hO))
        refine hK.out _ _ hc8 ?_
        clear hK K hga hrow hg2 hgb hO hsz hg8 hc8
        try simp only [Act.put, List.setIfInBounds_toArray, List.set_cons_zero, List.set_cons_succ]
        refine AllC.tail 17 (by rfl) (by kernel_rfl) ?_
        intro wt hwt
        simp only [List.drop_succ_cons, List.drop_zero]
        have HS8 : Hid (wt.ownsRow w1.heap.size 55 5 (.slice A8 (k + 1) c8) (k + 1) (pksC (rfAsk R (k + 1))) ∧ Grew w1 wt) := Lib.hid ⟨by rw [hsn.out]; exact own_below hown8 hwt, Grew.trans hb8 hwt⟩
        clear hown8 hwt hb8 hown d0 d1 d2
        go_wp2_with fail
        go_roundw
        case rel => exact ⟨k + 1, by omega, .inl (by have := HKM.out; omega), by go_num, A8, c8, ⟨rfl, rfl, rfl⟩, HS8⟩
        case measure => simp [intOf]; omega
      · have hlm' : most ≤ (k : Int) := by omega
        clear HS
        go_wp2_with fail
        go_ret
        exact ⟨k, A, c, rfl, hk, by omega, own_mono hown (by rw [HGB.out]; exact hs0), Grew.trans HG.out hg⟩
    · obtain rfl : k = R.pre.length := by omega
      clear HS
      go_wp2_with fail
      go_ret
      exact ⟨R.pre.length, A, c, rfl, Nat.le_refl _, by omega, own_mono hown (by rw [HGB.out]; exact hs0), Grew.trans HG.out hg⟩
end

/- RefServe37:
  stockyardref37.Serve, for requests.
-/
section
set_option linter.unusedVariables false
set_option linter.unusedSimpArgs false
set_option linter.unnecessarySimpa false
open Go.RowKit
attribute [local go_sem ↓] Go.wp_at_zero Go.wp_at_succ

set_option maxRecDepth 100000 in
set_option maxHeartbeats 2000000 in
theorem refServe37_any (x1 x2 f : Int) (xA : Option Addr) (xc : Nat) (A : Option Addr) (cap : Nat) (cs : List ChZ) (w : World) (hr : Row w w.heap.size A (chsC cs)) (hin : ChsIn w cs) (hm : cs.length ≤ 1048576) (hf1 : -9223372036854775808 ≤ f) (hf2 : f ≤ 9223372036854775807) :
    Calls Try.prog 68 #[.slice A cs.length cap, .agg #[.int .i64 1, .int .u64 x1, .int .i64 x2, .int .i64 f, .slice xA 0 xc]] w (AnsRes (srvO cs 1 (x1, x2) f) ⟨1, (x1, x2), f, ⟨xA, xc, []⟩⟩ w) := by
  have g1 := grew_alloc w (.cells #[.int .i64 1, .int .u64 x1, .int .i64 x2, .int .i64 f, .slice xA 0 xc] 55)
  have k1 := Blk.new w 55 #[.int .i64 1, .int .u64 x1, .int .i64 x2, .int .i64 f, .slice xA 0 xc]
  have g2 := grew_alloc (w.alloc (.cells #[.int .i64 1, .int .u64 x1, .int .i64 x2, .int .i64 f, .slice xA 0 xc] 55)) (.cells #[.int .i64 0, .int .u64 0, .int .i64 0, .int .i64 0, .slice none 0 0] 55)
  have k2 := Blk.new (w.alloc (.cells #[.int .i64 1, .int .u64 x1, .int .i64 x2, .int .i64 f, .slice xA 0 xc] 55)) 55 #[.int .i64 0, .int .u64 0, .int .i64 0, .int .i64 0, .slice none 0 0]
  have s0 : (w.alloc (.cells #[.int .i64 1, .int .u64 x1, .int .i64 x2, .int .i64 f, .slice xA 0 xc] 55)).heap.size = w.heap.size + 1 := by simp
  rw [s0] at k2
  replace k1 := k1.of g2
  have c0 := (k1.cell 0).trans (show _ = some (.int .i64 1) from rfl)
  have c1 := (k1.cell 1).trans (show _ = some (.int .u64 x1) from rfl)
  have c2 := (k1.cell 2).trans (show _ = some (.int .i64 x2) from rfl)
  have c3 := (k1.cell 3).trans (show _ = some (.int .i64 f) from rfl)
  have c4 := (k1.cell 4).trans (show _ = some (.slice xA 0 xc) from rfl)
  have HG := Lib.hid (Grew.trans g1 g2)
  have HR := Lib.hid ((hr.up HG.out (Nat.le_refl _)).more HG.out.size)
  have HI := Lib.hid (hin.up HG.out)
  have HK2 := Lib.hid k2
  have HF := Lib.hid (And.intro hf1 hf2)
  clear g1 g2 k1 k2 hr hin s0 hf1 hf2
  go_enter Try.func68, Try.ntmps68
  go_wp2_with fail
  generalize (w.alloc (.cells #[.int .i64 1, .int .u64 x1, .int .i64 x2, .int .i64 f, .slice xA 0 xc] 55)).alloc (.cells #[.int .i64 0, .int .u64 0, .int .i64 0, .int .i64 0, .slice none 0 0] 55) = w1 at *
  go_loopw [6] (fun i wr => ∃ k : Nat, k ≤ cs.length ∧ i = .int .i64 k ∧ Hid (∀ c ∈ cs.take k, c.id ≠ (x1, x2)) ∧ Drawn w1 wr) (fun i _ => cs.length - (intOf i).toNat)
  case atStart => exact ⟨0, Nat.zero_le _, rfl, Lib.hid (fun c hc => by simp at hc), Drawn.refl _⟩
  case round =>
    obtain ⟨k, hk, rfl, HN, hd⟩ := hrel
    have d0 := (hd.cell _).trans c0
    have d1 := (hd.cell _).trans c1
    have d2 := (hd.cell _).trans c2
    have d3 := (hd.cell _).trans c3
    have d4 := (hd.cell _).trans c4
    by_cases hlt : k < cs.length
    · obtain ⟨ad, hA, hbl, e0, e1, e2⟩ := chs_at (HR.out.keep (w' := wr) fun p _ => hd.cell p) hlt
      subst hA
      have hci := HI.out _ (List.getElem_mem hlt)
      have HC := Lib.hid (rfl : cs[k] = cs[k])
      generalize hc : cs[k] = c at *
      have HCk := Lib.hid hc
      clear hc HC
      obtain ⟨⟨y1, y2⟩, ⟨bA, bc, zs⟩⟩ := c
      simp only at e0 e1 e2 hci
      by_cases he : ((y1, y2) : IdZ) = (x1, x2)
      · have HFd : Hid (findC cs (x1, x2) = some zs) := Lib.hid (by
          have h9 := findC_at hlt (by rw [HCk.out]; exact he) HN.out
          rw [HCk.out] at h9
          exact h9)
        obtain ⟨rfl, rfl⟩ := Prod.mk.inj he.symm
        clear he
        go_upto_region 4 with (fail)
        refine wp_region_g 7 (by kernel_rfl) ?_
        refine AllC.head 0 7 (fuel := 1) (by first | exact fun h k => Grew.trans h k | exact fun h k => cls_grew h k) (grew_drew _) (by rfl) (by kernel_rfl) ?_
        simp only [List.take_succ_cons, List.take_zero, List.drop_succ_cons, List.drop_zero]
        repeat (first
          | (refine HeadC.val (by rfl) ?_
             apply Exists.intro
             refine ⟨fun w' hw' => ?_, ?_⟩
             · (have hf_0 := cell_up hw' d1; have hf_1 := cell_up hw' d2; have hf_2 := cell_up hw' e0; have hf_3 := cell_up hw' e1; (go_simp) <;> (try go_ints) <;> with_reducible rfl)
             try simp only [Act.put, List.setIfInBounds_toArray, List.set_cons_zero, List.set_cons_succ])
          | (refine HeadC.shut (by rfl) ?_
             try simp only [Act.put, List.setIfInBounds_toArray, List.set_cons_zero, List.set_cons_succ]))
        refine HeadC.nil ?_
        refine AllC.tail 7 (by rfl) (by kernel_rfl) ?_
        intro wt hwt
        simp only [List.drop_succ_cons, List.drop_zero]
        have hgt := (grew_drew wr).trans hwt
        replace d0 := cell_up hgt d0
        replace d1 := cell_up hgt d1
        replace d2 := cell_up hgt d2
        replace d3 := cell_up hgt d3
        replace d4 := cell_up hgt d4
        replace e0 := cell_up hgt e0
        replace e1 := cell_up hgt e1
        replace e2 := cell_up hgt e2
        have HW := Lib.hid (Grew.trans (hd.below w1.heap.size) hgt)
        clear hwt hgt
        by_cases h0 : f < 0
        · clear hci
          have kz := HK2.out.of (show Grew w1 wt from HW.out)
          have y0 := kz.frozen 0
          have y1 := kz.frozen 1
          have y2 := kz.frozen 2
          have y3 := kz.frozen 3
          have y4 := kz.frozen 4
          have q0 := (kz.cell 0).trans (show _ = some (.int .i64 0) from rfl)
          have q1 := (kz.cell 1).trans (show _ = some (.int .u64 0) from rfl)
          have q2 := (kz.cell 2).trans (show _ = some (.int .i64 0) from rfl)
          have q3 := (kz.cell 3).trans (show _ = some (.int .i64 0) from rfl)
          have q4 := (kz.cell 4).trans (show _ = some (.slice none 0 0) from rfl)
          have HFz := Lib.hid (((((kz.set_ 0 (.int .i64 0)).set_ 1 (.int .u64 0)).set_ 2 (.int .i64 0)).set_ 3 (.int .i64 0)).set_ 4 (.slice none 0 0))
          have hCs : Ch (At (w.heap.size + 1)) wt (((((wt.setCell ⟨w.heap.size + 1, 0, none⟩ (.int .i64 0)).setCell ⟨w.heap.size + 1, 1, none⟩ (.int .u64 0)).setCell ⟨w.heap.size + 1, 2, none⟩ (.int .i64 0)).setCell ⟨w.heap.size + 1, 3, none⟩ (.int .i64 0)).setCell ⟨w.heap.size + 1, 4, none⟩ (.slice none 0 0)) :=
            (((((Ch.refl (At (w.heap.size + 1)) wt).set_at 0 _).set_at 1 _).set_at 2 _).set_at 3 _).set_at 4 _
          have gW := Grew.trans HG.out (show Grew w1 wt from HW.out)
          have HGz := Lib.hid (show Grew w _ from Below.trans (B := w.heap.size) gW (hCs.below gW.size (fun i hi => by have h : i = w.heap.size + 1 := hi; omega)))
          have HSv : Hid (srvO cs 1 (x1, x2) f = none) := Lib.hid (by unfold srvO; rw [if_pos rfl, HFd.out]; show ansO f zs = none; unfold ansO; rw [if_pos (by omega)])
          clear hCs kz gW
          go_wp2_with fail
          have f0 := (HFz.out.cell 0).trans (show _ = some (.int .i64 0) from rfl)
          have f1 := (HFz.out.cell 1).trans (show _ = some (.int .u64 0) from rfl)
          have f2 := (HFz.out.cell 2).trans (show _ = some (.int .i64 0) from rfl)
          have f3 := (HFz.out.cell 3).trans (show _ = some (.int .i64 0) from rfl)
          have f4 := (HFz.out.cell 4).trans (show _ = some (.slice none 0 0) from rfl)
          refine bodyPost_ret (v := .tuple #[pk0, .bool false]) ?_ rfl (by rw [HSv.out]; exact ⟨rfl, HGz.out⟩)
          simp [results, Try.results68, go_sem, pk0, f0, f1, f2, f3, f4]
        · by_cases h1 : (zs.length : Int) ≤ f
          · clear hci
            have kz := HK2.out.of (show Grew w1 wt from HW.out)
            have y0 := kz.frozen 0
            have y1 := kz.frozen 1
            have y2 := kz.frozen 2
            have y3 := kz.frozen 3
            have y4 := kz.frozen 4
            have q0 := (kz.cell 0).trans (show _ = some (.int .i64 0) from rfl)
            have q1 := (kz.cell 1).trans (show _ = some (.int .u64 0) from rfl)
            have q2 := (kz.cell 2).trans (show _ = some (.int .i64 0) from rfl)
            have q3 := (kz.cell 3).trans (show _ = some (.int .i64 0) from rfl)
            have q4 := (kz.cell 4).trans (show _ = some (.slice none 0 0) from rfl)
            have HFz := Lib.hid (((((kz.set_ 0 (.int .i64 0)).set_ 1 (.int .u64 0)).set_ 2 (.int .i64 0)).set_ 3 (.int .i64 0)).set_ 4 (.slice none 0 0))
            have hCs : Ch (At (w.heap.size + 1)) wt (((((wt.setCell ⟨w.heap.size + 1, 0, none⟩ (.int .i64 0)).setCell ⟨w.heap.size + 1, 1, none⟩ (.int .u64 0)).setCell ⟨w.heap.size + 1, 2, none⟩ (.int .i64 0)).setCell ⟨w.heap.size + 1, 3, none⟩ (.int .i64 0)).setCell ⟨w.heap.size + 1, 4, none⟩ (.slice none 0 0)) :=
              (((((Ch.refl (At (w.heap.size + 1)) wt).set_at 0 _).set_at 1 _).set_at 2 _).set_at 3 _).set_at 4 _
            have gW := Grew.trans HG.out (show Grew w1 wt from HW.out)
            have HGz := Lib.hid (show Grew w _ from Below.trans (B := w.heap.size) gW (hCs.below gW.size (fun i hi => by have h : i = w.heap.size + 1 := hi; omega)))
            have HSv : Hid (srvO cs 1 (x1, x2) f = none) := Lib.hid (by unfold srvO; rw [if_pos rfl, HFd.out]; show ansO f zs = none; unfold ansO; rw [if_pos (by omega)])
            clear hCs kz gW
            go_wp2_with fail
            have f0 := (HFz.out.cell 0).trans (show _ = some (.int .i64 0) from rfl)
            have f1 := (HFz.out.cell 1).trans (show _ = some (.int .u64 0) from rfl)
            have f2 := (HFz.out.cell 2).trans (show _ = some (.int .i64 0) from rfl)
            have f3 := (HFz.out.cell 3).trans (show _ = some (.int .i64 0) from rfl)
            have f4 := (HFz.out.cell 4).trans (show _ = some (.slice none 0 0) from rfl)
            refine bodyPost_ret (v := .tuple #[pk0, .bool false]) ?_ rfl (by rw [HSv.out]; exact ⟨rfl, HGz.out⟩)
            simp [results, Try.results68, go_sem, pk0, f0, f1, f2, f3, f4]
          · obtain ⟨fn, rfl⟩ : ∃ fn : Nat, f = fn := ⟨f.toNat, by omega⟩
            have hfl : fn < zs.length := by omega
            obtain ⟨hbr, hbc, hbm⟩ := hci
            obtain ⟨ep, hep⟩ : ∃ ep : Nat, ep = min zs.length (fn + 1024) := ⟨_, rfl⟩
            have hw1k : IntKind.i64.wrap ((fn : Int) + 1024) = (fn : Int) + 1024 := Go.IntWalk.i64_in _ (by omega)
            have hmin : min (zs.length : Int) ((fn : Int) + 1024) = (ep : Int) := by omega
            have hyl : (ansZ fn zs).length = ep - fn := by unfold ansZ; rw [List.length_take, List.length_drop]; omega
            have hyl2 : ep - fn ≤ 1024 := by omega
            have q1 : (fn : Int) ≤ (ep : Int) := by omega
            have q2 : (ep : Int) ≤ (bc : Int) := by omega
            have q3 : (0 : Int) ≤ (fn : Int) := by omega
            have hys : ((zs.map (Value.int .u8)).drop fn).take 1024 = (ansZ fn zs).map (.int .u8) := by unfold ansZ; rw [List.map_take, List.map_drop]
            have hrc := hbr.cut' (lo := fn) (m := 1024) (cap := bc) (fun e => by omega)
            rw [hys] at hrc
            have HRC := Lib.hid (((hrc.up HW.out (Nat.le_refl _)).more HW.out.size))
            have hd1 : decide ((fn : Int) < 0) = false := by rw [decide_eq_false_iff_not]; omega
            clear hbr hrc hys hep
            go_upto_region 8 with (fail)
            refine wp_region_g 19 (by kernel_rfl) ?_
            refine AllC.head 0 17 (fuel := 4) (by first | exact fun h k => Grew.trans h k | exact fun h k => cls_grew h k) (grew_drew _) (by rfl) (by kernel_rfl) ?_
            simp only [List.take_succ_cons, List.take_zero, List.drop_succ_cons, List.drop_zero]
            repeat (first
              | (refine HeadC.val (by rfl) ?_
                 apply Exists.intro
                 refine ⟨fun w' hw' => ?_, ?_⟩
                 · (have hf_0 := cell_up hw' d1; have hf_1 := cell_up hw' d2; have hf_2 := cell_up hw' d3; have hf_3 := cell_up hw' e2; (go_simp) <;> (try go_ints) <;> with_reducible rfl)
                 try simp only [Act.put, List.setIfInBounds_toArray, List.set_cons_zero, List.set_cons_succ])
              | (refine HeadC.shut (by rfl) ?_
                 try simp only [Act.put, List.setIfInBounds_toArray, List.set_cons_zero, List.set_cons_succ]))
            refine HeadC.nil ?_
            refine AllC.one 17 (by kernel_rfl) rfl ?_
            intro wg hg K hK
            have hg1 : Grew wt wg := (grew_drew wt).trans hg
            refine step_append_row rfl (.const (.slice none 0 0)) (.tmp 65) rfl wg.heap.size elem_u8 (by rfl) (World.ownsRow_nil _ _ _ _) _ (by rfl) (by rw [List.length_map, hyl]; omega) (HRC.out.up hg1 (Nat.le_refl _)) (ones_u8 _) (by unfold maxLen; omega) (by omega) (Nat.le_refl _) ?_
            intro A2 k2 w2 hown2 hg2 hv2
            rw [List.nil_append] at hown2
            have hG2 := hg1.trans (grewA_one hg2)
            have hny : 0 + (ep - fn) = (ansZ fn zs).length := by rw [hyl]; omega
            rw [hny] at hown2 ⊢
            have HLo : Hid (w.heap.size + 2 ≤ wg.heap.size) := Lib.hid (Nat.le_trans (Nat.le_trans (Nat.succ_le_of_lt HK2.out.lt) HW.out.size) hg1.size)
            have HO2 := Lib.hid (own_mono hown2 HLo.out)
            refine hK.out _ _ hG2 ?_
            clear hK K hg hg1 hg2 hv2 hown2 HRC hny hyl hyl2
            have HSv : Hid (srvO cs 1 (x1, x2) (fn : Int) = some (ansZ fn zs)) := Lib.hid (by unfold srvO; rw [if_pos rfl, HFd.out]; show ansO fn zs = _; unfold ansO; rw [if_neg (by omega)]; rfl)
            clear h0 h1 hfl hmin hw1k q1 q2 q3 hd1
            generalize ansZ fn zs = ys at *
            try simp only [Act.put, List.setIfInBounds_toArray, List.set_cons_zero, List.set_cons_succ]
            have hgr := hG2
            refine AllC.head 18 1 (fuel := 2) (by first | exact fun h k => Grew.trans h k | exact fun h k => cls_grew h k) (hgr) (by rfl) (by kernel_rfl) ?_
            simp only [List.take_succ_cons, List.take_zero, List.drop_succ_cons, List.drop_zero]
            repeat (first
              | (refine HeadC.val (by rfl) ?_
                 apply Exists.intro
                 refine ⟨fun w' hw' => ?_, ?_⟩
                 · ((go_simp) <;> (try go_ints) <;> with_reducible rfl)
                 try simp only [Act.put, List.setIfInBounds_toArray, List.set_cons_zero, List.set_cons_succ])
              | (refine HeadC.shut (by rfl) ?_
                 try simp only [Act.put, List.setIfInBounds_toArray, List.set_cons_zero, List.set_cons_succ]))
            refine HeadC.nil ?_
            refine AllC.tail 19 (by rfl) (by kernel_rfl) ?_
            intro wt hwt
            simp only [List.drop_succ_cons, List.drop_zero]
            have HGt := Lib.hid (Grew.trans HW.out (hgr.trans hwt))
            replace HO2 := Lib.hid (own_below HO2.out hwt)
            clear hgr hG2 hwt d0 d1 d2 d3 d4 e0 e1 e2 w2
            have kz := HK2.out.of (show Grew w1 _ from HGt.out)
            have y0 := kz.frozen 0
            have y1 := kz.frozen 1
            have y2 := kz.frozen 2
            have y3 := kz.frozen 3
            have y4 := kz.frozen 4
            have q0 := (kz.cell 0).trans (show _ = some (.int .i64 0) from rfl)
            have q1 := (kz.cell 1).trans (show _ = some (.int .u64 0) from rfl)
            have q2 := (kz.cell 2).trans (show _ = some (.int .i64 0) from rfl)
            have q3 := (kz.cell 3).trans (show _ = some (.int .i64 0) from rfl)
            have q4 := (kz.cell 4).trans (show _ = some (.slice none 0 0) from rfl)
            have HFz := Lib.hid (((((kz.set_ 0 (.int .i64 2)).set_ 1 (.int .u64 x1)).set_ 2 (.int .i64 x2)).set_ 3 (.int .i64 (fn : Int))).set_ 4 (.slice A2 ys.length k2))
            have hCs : Ch (At (w.heap.size + 1)) wt (((((wt.setCell ⟨w.heap.size + 1, 0, none⟩ (.int .i64 2)).setCell ⟨w.heap.size + 1, 1, none⟩ (.int .u64 x1)).setCell ⟨w.heap.size + 1, 2, none⟩ (.int .i64 x2)).setCell ⟨w.heap.size + 1, 3, none⟩ (.int .i64 (fn : Int))).setCell ⟨w.heap.size + 1, 4, none⟩ (.slice A2 ys.length k2)) :=
              (((((Ch.refl (At (w.heap.size + 1)) wt).set_at 0 _).set_at 1 _).set_at 2 _).set_at 3 _).set_at 4 _
            have gW := Grew.trans HG.out (show Grew w1 wt from HGt.out)
            have HGz := Lib.hid (show Grew w _ from Below.trans (B := w.heap.size) gW (hCs.below gW.size (fun i hi => by have h : i = w.heap.size + 1 := hi; omega)))
            have HOz := Lib.hid (own_ch HO2.out hCs (fun i hi h => by have h1 := own_lt HO2.out i hi; have h2 : i = w.heap.size + 1 := h; omega))
            clear hCs kz gW
            go_wp2_with fail
            all_goals
              have f0 := (HFz.out.cell 0).trans (show _ = some (.int .i64 2) from rfl)
              have f1 := (HFz.out.cell 1).trans (show _ = some (.int .u64 x1) from rfl)
              have f2 := (HFz.out.cell 2).trans (show _ = some (.int .i64 x2) from rfl)
              have f3 := (HFz.out.cell 3).trans (show _ = some (.int .i64 (fn : Int)) from rfl)
              have f4 := (HFz.out.cell 4).trans (show _ = some (.slice A2 ys.length k2) from rfl)
              refine bodyPost_ret (v := .tuple #[.agg #[.int .i64 2, .int .u64 x1, .int .i64 x2, .int .i64 (fn : Int), .slice A2 ys.length k2], .bool true]) ?_ rfl (by rw [HSv.out]; exact ⟨A2, k2, rfl, own_mono HOz.out (by omega), HGz.out⟩)
              simp [results, Try.results68, go_sem, f0, f1, f2, f3, f4]
      · have HN2 : Hid (∀ c ∈ cs.take (k + 1), c.id ≠ (x1, x2)) := Lib.hid (fun c hc => by
          rw [List.take_succ_eq_append_getElem hlt] at hc
          rcases List.mem_append.1 hc with hc | hc
          · exact HN.out c hc
          · rw [List.mem_singleton] at hc; subst hc; rw [HCk.out]; exact he)
        rcases id_ne he with hne | ⟨rfl, hne⟩
        all_goals
          clear he hci
          go_wp2_with fail
          go_quiet (fail)
          go_wp2
          go_roundw
          case rel => exact ⟨k + 1, by omega, by go_num, HN2, hd.drewN _⟩
          case measure => simp [intOf]; omega
    · obtain rfl : k = cs.length := by omega
      have kz := HK2.out.of (show Grew w1 wr from hd.below _)
      have y0 := kz.frozen 0
      have y1 := kz.frozen 1
      have y2 := kz.frozen 2
      have y3 := kz.frozen 3
      have y4 := kz.frozen 4
      have q0 := (kz.cell 0).trans (show _ = some (.int .i64 0) from rfl)
      have q1 := (kz.cell 1).trans (show _ = some (.int .u64 0) from rfl)
      have q2 := (kz.cell 2).trans (show _ = some (.int .i64 0) from rfl)
      have q3 := (kz.cell 3).trans (show _ = some (.int .i64 0) from rfl)
      have q4 := (kz.cell 4).trans (show _ = some (.slice none 0 0) from rfl)
      have HFz := Lib.hid (((((kz.set_ 0 (.int .i64 0)).set_ 1 (.int .u64 0)).set_ 2 (.int .i64 0)).set_ 3 (.int .i64 0)).set_ 4 (.slice none 0 0))
      have hCs : Ch (At (w.heap.size + 1)) wr (((((wr.setCell ⟨w.heap.size + 1, 0, none⟩ (.int .i64 0)).setCell ⟨w.heap.size + 1, 1, none⟩ (.int .u64 0)).setCell ⟨w.heap.size + 1, 2, none⟩ (.int .i64 0)).setCell ⟨w.heap.size + 1, 3, none⟩ (.int .i64 0)).setCell ⟨w.heap.size + 1, 4, none⟩ (.slice none 0 0)) :=
        (((((Ch.refl (At (w.heap.size + 1)) wr).set_at 0 _).set_at 1 _).set_at 2 _).set_at 3 _).set_at 4 _
      have gW := Grew.trans HG.out (show Grew w1 wr from hd.below _)
      have HGz := Lib.hid (show Grew w _ from Below.trans (B := w.heap.size) gW (hCs.below gW.size (fun i hi => by have h : i = w.heap.size + 1 := hi; omega)))
      have HSv : Hid (srvO cs 1 (x1, x2) f = none) := Lib.hid (by unfold srvO; rw [if_pos rfl, findC_no (fun c hc => HN.out c (by rw [List.take_length]; exact hc))]; rfl)
      clear hCs kz gW
      go_wp2_with fail
      have f0 := (HFz.out.cell 0).trans (show _ = some (.int .i64 0) from rfl)
      have f1 := (HFz.out.cell 1).trans (show _ = some (.int .u64 0) from rfl)
      have f2 := (HFz.out.cell 2).trans (show _ = some (.int .i64 0) from rfl)
      have f3 := (HFz.out.cell 3).trans (show _ = some (.int .i64 0) from rfl)
      have f4 := (HFz.out.cell 4).trans (show _ = some (.slice none 0 0) from rfl)
      refine bodyPost_ret (v := .tuple #[pk0, .bool false]) ?_ rfl (by rw [HSv.out]; exact ⟨rfl, HGz.out⟩)
      simp [results, Try.results68, go_sem, pk0, f0, f1, f2, f3, f4]
end

/- Pkt37:
  Packets as stockyardlaw37.packets gives them: right in form, the bytes shared.
-/
section
section
set_option linter.unusedVariables false
set_option linter.unusedSimpArgs false
set_option linter.unnecessarySimpa false
open Go.RowKit

structure PkQ (m : Nat) (x : Pk) : Prop where
  wf : WfI x.id
  byt : Byt x.p.zs
  len : x.p.zs.length ≤ m
  cap : x.p.zs.length ≤ x.p.cap
theorem PkQ.more {m n : Nat} {x : Pk} (h : PkQ m x) (k : m ≤ n) : PkQ n x := ⟨h.wf, h.byt, Nat.le_trans h.len k, h.cap⟩
structure PktS (w : World) (bs m : Nat) (A : Option Addr) (c : Nat) (l : List Pk) : Prop where
  row : w.ownsRow bs 55 5 (.slice A l.length c) l.length (pksC l)
  tx : ∀ x ∈ l, Tx w bs x.p
  ok : ∀ x ∈ l, PkQ m x
/-- what packets returns -/
def PktRes (t B M : Nat) (w : World) (e : Ending) (w' : World) : Prop := ∃ A c ql, e = .returned (.slice A (List.length (α := Pk) ql) c) ∧ PktS w' w.heap.size 1026 A c ql ∧ ql.length ≤ 11 ∧ Tp w' t B (M + 40) ∧ Ch (At t) w w'
section
variable {w w' w8 : World} {bs m c g : Nat} {A : Option Addr} {l : List Pk} {S : Nat → Prop} {x : Pk}
theorem PktS.nil : PktS w bs m none 0 [] := ⟨World.ownsRow_nil _ _ _ _, fun x hx => (by cases hx), fun x hx => (by cases hx)⟩
theorem PktS.ch (h : PktS w bs m A c l) (k : Ch S w w') (hS : ∀ i, (Value.slice A l.length c).ownBlock = some i → ¬ S i) (hN : NoBytes w S) : PktS w' bs m A c l :=
  ⟨own_ch h.row k hS, fun x hx => (h.tx x hx).ch k hN, h.ok⟩
theorem PktS.of (h : PktS w bs m A c l) (k : Grew w w') : PktS w' bs m A c l := h.ch (S := NoB) (Ch.of_below k) (fun _ _ h => h) (fun _ _ _ h => h.elim)
theorem PktS.low (h : PktS w bs m A c l) {b2 : Nat} (k : b2 ≤ bs) : PktS w b2 m A c l := ⟨own_mono h.row k, fun x hx => (h.tx x hx).mono k, h.ok⟩
theorem PktS.more (h : PktS w bs m A c l) {n : Nat} (k : m ≤ n) : PktS w bs n A c l := ⟨h.row, h.tx, fun x hx => (h.ok x hx).more k⟩
theorem PktS.noB (h : PktS w bs m A c l) : NoBytes w (fun i => (Value.slice A l.length c).ownBlock = some i) := own_noBytes h.row (by decide)
theorem PktS.snoc (h : PktS w bs m A c l) (hx : Tx w bs x.p) (hq : PkQ m x) {A8 : Option Addr} {c8 : Nat} (ho : w8.ownsRow bs 55 5 (.slice A8 (l.length + 1) c8) (l.length + 1) (pksC l ++ pkC x)) (hg : w.grownBy w8 (Value.slice A l.length c).ownBlock) : PktS w8 bs m A8 c8 (l ++ [x]) := by
  refine ⟨by rw [List.length_append, pksC_append, pksC_one]; exact ho, fun y hy => ?_, fun y hy => ?_⟩
  · rcases List.mem_append.1 hy with hy | hy
    · exact (h.tx y hy).ch (Ch.of_own hg) h.noB
    · rw [List.mem_singleton.1 hy]; exact hx.ch (Ch.of_own hg) h.noB
  · rcases List.mem_append.1 hy with hy | hy
    · exact h.ok y hy
    · rw [List.mem_singleton.1 hy]; exact hq
theorem pks_setj {i j : Nat} {v : Value} (hi : i < l.length) (hj : j < 5) (h : pkC x = (pkC l[i]).set j v) : pksC (l.set i x) = (pksC l).set (i * 5 + j) v := by
  have e : pksC l = (pksC l).take (i * 5) ++ (pkC l[i] ++ (pksC l).drop (i * 5 + 5)) := by
    have h1 := pksC_set l i l[i] hi
    rw [List.set_getElem_self, List.append_assoc] at h1
    exact h1
  have hl : ((pksC l).take (i * 5)).length = i * 5 := by rw [List.length_take, pksC_len]; omega
  have h5 : (pkC l[i]).length = 5 := rfl
  conv => rhs; rw [e]
  rw [pksC_set _ _ _ hi, List.set_append_right _ _ (by rw [hl]; omega), hl, show i * 5 + j - i * 5 = j by omega, List.set_append_left _ _ (by rw [h5]; exact hj), ← h, List.append_assoc]
/-- one cell of a packet is written -/
theorem PktS.put (h : PktS w bs m (some ⟨g, 0, none⟩) c l) {i j : Nat} {v : Value} (hi : i < l.length) (hj : j < 5) (hx : pkC x = (pkC l[i]).set j v) (ht : Tx w bs x.p) (hq : PkQ m x) :
    PktS (w.setCell ⟨g, i * 5 + j, none⟩ v) bs m (some ⟨g, 0, none⟩) c (l.set i x) ∧ Ch (At g) w (w.setCell ⟨g, i * 5 + j, none⟩ v) := by
  obtain ⟨h1, h2⟩ := h.row.stored (i * 5 + j) v
  have hc := Ch.of_grown h2
  refine ⟨⟨?_, fun y hy => ?_, fun y hy => ?_⟩, hc⟩
  · rw [List.length_set, pks_setj hi hj hx]; exact h1
  · rcases List.mem_or_eq_of_mem_set hy with hy | rfl
    · exact (h.tx y hy).ch hc (nb_at h.row)
    · exact ht.ch hc (nb_at h.row)
  · rcases List.mem_or_eq_of_mem_set hy with hy | rfl
    · exact h.ok y hy
    · exact hq
end
/-- a request -/
structure AskOk (x : Pk) : Prop where
  kind : x.kind = 1
  wf : WfI x.id
  lo : 0 ≤ x.frm
  hi : x.frm ≤ 1048576
  no : x.p = ⟨none, 0, []⟩
theorem rfAsk_ok {R : RfR} (ok : RfOk R) (hw : ∀ c ∈ R.pre, WfI c.id) (m : Nat) : ∀ x ∈ rfAsk R m, AskOk x := fun x hx => by
  unfold rfAsk at hx
  obtain ⟨c, hc, rfl⟩ := List.mem_map.1 hx
  have hc2 := List.mem_of_mem_take hc
  have := (ok.bpre c hc2).2
  exact ⟨rfl, hw c hc2, by show (0 : Int) ≤ (c.p.zs.length : Int); omega, by show (c.p.zs.length : Int) ≤ 1048576; omega, rfl⟩
theorem srv_ok {cs : List ChZ} (hc : ∀ c ∈ cs, Byt c.p.zs) {k : Int} {x : IdZ} {f : Int} {ys : List Int} (h : srvO cs k x f = some ys) : Byt ys ∧ ys.length ≤ 1024 := by
  unfold srvO at h
  split at h
  · rw [findP_C] at h
    cases hf : findP cs x with
    | none => rw [hf] at h; cases h
    | some b =>
      rw [hf] at h
      obtain ⟨c, hc', _, rfl⟩ := findP_mem hf
      simp only [Option.map_some, Option.bind_some] at h
      unfold ansO at h
      split at h
      · cases h
      · injection h with h
        subst h
        exact ⟨ansZ_byt (hc c hc') _, by rw [ansZ_len]; omega⟩
  · cases h
end
end

/- Packets37:
  stockyardlaw37.packets: packets that are right in form.
-/
section
set_option linter.unusedVariables false
set_option linter.unusedSimpArgs false
set_option linter.unnecessarySimpa false
open Go.RowKit
attribute [local go_sem ↓] Go.wp_at_zero Go.wp_at_succ

set_option maxRecDepth 100000 in
set_option maxHeartbeats 8000000 in
theorem packets37_any (t B M bl : Nat) (L : RfL) (R : RfR) (A : Option Addr) (lc : Nat) (cs : List ChZ) (w : World) (hT : Tp w t B M) (h : RfIs w L R) (ok : RfOk R) (hwf : ∀ c ∈ R.pre, WfI c.id) (hM : M ≤ 281474976710656)
    (hl : w.ownsRow bl 64 3 (.slice A cs.length lc) cs.length (chsC cs)) (hn : cs.length ≤ 1000) (htx : ∀ c ∈ cs, Tx w bl c.p ∧ Byt c.p.zs ∧ c.p.zs.length ≤ c.p.cap ∧ c.p.zs.length ≤ 1048576) (hbl : bl ≤ w.heap.size) :
    Calls Try.prog 37 #[.pointer (some ⟨t, 0, none⟩), rfV L R, .slice A cs.length lc] w (PktRes t B M w) := by
  have hlt0 := hT.lt
  have HBw : Hid (B ≤ w.heap.size) := Lib.hid (by have h1 := hT.le; omega)
  have HTX := Lib.hid htx
  have HCB : Hid (∀ c ∈ cs, Byt c.p.zs) := Lib.hid (fun c hc => (htx c hc).2.1)
  have HNt := Lib.hid (fun (i : Nat) (hi : (Value.slice A cs.length lc).ownBlock = some i) (h : At t i) => (show False from by
    obtain ⟨_, _, _, _, hBt, _⟩ := hT.ex
    have h2 : i = t := h
    subst h2
    exact own_blk_ne hl hBt (by decide) hi))
  have HL := Lib.hid hl
  obtain ⟨lai, lci, lah, lch, lag, lcg, lap, lcp⟩ := L
  have g0 := grew_alloc w (.cells #[.int .i64 R.n, .slice lai R.ids.length lci, .slice lah R.had.length lch, .slice lag R.got.length lcg, .slice lap R.pre.length lcp] 71)
  have kR := Blk.new w 71 #[.int .i64 R.n, .slice lai R.ids.length lci, .slice lah R.had.length lch, .slice lag R.got.length lcg, .slice lap R.pre.length lcp]
  have r0 := (kR.cell 0).trans (show _ = some (.int .i64 R.n) from rfl)
  have r1 := (kR.cell 1).trans (show _ = some (.slice lai R.ids.length lci) from rfl)
  have r2 := (kR.cell 2).trans (show _ = some (.slice lah R.had.length lch) from rfl)
  have r3 := (kR.cell 3).trans (show _ = some (.slice lag R.got.length lcg) from rfl)
  have r4 := (kR.cell 4).trans (show _ = some (.slice lap R.pre.length lcp) from rfl)
  have HW1 : Hid (w.heap.size < (w.alloc (.cells #[.int .i64 R.n, .slice lai R.ids.length lci, .slice lah R.had.length lch, .slice lag R.got.length lcg, .slice lap R.pre.length lcp] 71)).heap.size) := Lib.hid kR.lt
  generalize hw1 : w.alloc (.cells #[.int .i64 R.n, .slice lai R.ids.length lci, .slice lah R.had.length lch, .slice lag R.got.length lcg, .slice lap R.pre.length lcp] 71) = w1 at *
  have HG1 := Lib.hid g0
  have HTl : Hid (t < w1.heap.size) := Lib.hid (by have := HW1.out; omega)
  have HAsk := Lib.hid (refAsk37_any ⟨lai, lci, lah, lch, lag, lcg, lap, lcp⟩ R 9 w1 (h.up g0) ok)
  have HAo := Lib.hid (rfAsk_ok ok hwf)
  have HAn := Lib.hid (fun k => rfAsk_length R k)
  clear htx hl kR g0 hlt0 h ok hwf
  unfold rfV
  unfold rfV at HAsk
  go_enter Try.func37, Try.ntmps37
  go_wp2_with fail
  clear hw1
  refine HAsk.out.mono ?_
  clear HAsk r0 r1 r2 r3 r4
  rintro e w2 ⟨m, Aa, ca, rfl, hmp, hm9, hasks, hg2⟩
  have hm : m ≤ 9 := by omega
  have HAL : Hid ((rfAsk R m).length = m ∧ ∀ x ∈ rfAsk R m, AskOk x) := Lib.hid ⟨HAn.out m hmp, HAo.out m⟩
  have HW2 : Hid (w1.heap.size ≤ w2.heap.size) := Lib.hid hg2.size
  have HG2 := Lib.hid (Grew.trans HG1.out hg2)
  have HAa : Hid (∀ i, (Value.slice Aa m ca).ownBlock = some i → w1.heap.size ≤ i ∧ i < w2.heap.size) := Lib.hid (fun i hi => hasks.lt i hi)
  have hT2 := hT.of HG2.out
  have HCT : Hid (∀ c ∈ cs, Tx w2 bl c.p) := Lib.hid (fun c hc => (HTX.out c hc).1.of HG2.out)
  have HLW : Hid (∀ W, Ch (fun i => i = t ∨ (Value.slice Aa m ca).ownBlock = some i) w2 W → Row W W.heap.size A (chsC cs)) := Lib.hid (fun W hc => own_row (own_ch (own_below HL.out HG2.out) hc (fun i hi h => by
    rcases h with h | h
    · exact HNt.out i hi h
    · have h1 := (HL.out.lt i hi).2; have h2 := HAa.out i h; have h3 := HW1.out; omega)))
  have HSZ : Hid (∀ W, Ch (fun i => i = t ∨ (Value.slice Aa m ca).ownBlock = some i) w2 W → w2.heap.size ≤ W.heap.size) := Lib.hid (fun W hc => hc.size)
  clear hg2 hmp hm9 HAo HAn
  generalize rfAsk R m = al0 at *
  have HP0 : Hid (PktS w2 w2.heap.size 1024 none 0 []) := Lib.hid PktS.nil
  go_wp2_with fail
  go_loopw [7, 9] (fun v i wr => ∃ (k : Nat) (al ql : List Pk) (Ao : Option Addr) (co : Nat), k ≤ m ∧ i = .int .i64 k ∧ v = .slice Ao ql.length co ∧ ql.length ≤ k ∧ Hid (al.length = m ∧ ∀ x ∈ al, AskOk x) ∧ wr.ownsRow w1.heap.size 55 5 (.slice Aa m ca) m (pksC al) ∧ Hid (PktS wr w2.heap.size 1024 Ao co ql) ∧ Hid (∀ c ∈ cs, Tx wr bl c.p) ∧ Tp wr t B (M + 2 * k) ∧ Ch (fun i => i = t ∨ (Value.slice Aa m ca).ownBlock = some i) w2 wr) (fun _ i _ => m - (intOf i).toNat)
  case atStart => exact ⟨0, al0, [], none, 0, Nat.zero_le _, rfl, rfl, Nat.le_refl _, HAL, hasks, HP0, HCT, hT2, Ch.refl _ _⟩
  case round =>
    clear hT hT2 hasks HAL HP0 HCT
    obtain ⟨k, al, ql, Ao, co, hk, rfl, rfl, hqk, HAL0, hasks0, HP0, HCT0, hT, hch⟩ := hrel
    by_cases hlt : k < m
    · go_wp2_with fail
      refine (tapeNext_any _ _ _ 6 _ hT (by omega) (by omega)).mono ?_
      rintro e w3 ⟨x, rfl, hx, hT3, hch3⟩
      have hnt3 : ∀ i, (Value.slice Aa m ca).ownBlock = some i → ¬ At t i := fun i hi h => by have h1 := HAa.out i hi; have h2 : i = t := h; have h3 := HTl.out; omega
      have hasks3 := own_ch hasks0 hch3 hnt3
      have HP3 := Lib.hid (HP0.out.ch hch3 (fun i hi h => by have h1 := own_lt HP0.out.row i hi; have h2 : i = t := h; have h3 := HTl.out; have h4 := HW2.out; omega) (tape_noBytes' hT))
      have HCT3 : Hid (∀ c ∈ cs, Tx w3 bl c.p) := Lib.hid (fun c hc => (HCT0.out c hc).ch hch3 (tape_noBytes' hT))
      have hchW3 := hch.trans (hch3.mono (T := fun i => i = t ∨ (Value.slice Aa m ca).ownBlock = some i) (fun _ _ h => .inl h))
      clear hT hch hch3 hx HP0 HCT0 hasks0 hnt3
      obtain ⟨ga, rfl, hga1, hga2⟩ := own_some hasks3 (Nat.lt_of_le_of_lt (Nat.zero_le _) hlt)
      obtain rfl | hx0 : x = 0 ∨ 1 ≤ x := by omega
      · have hkl : k < al.length := by rw [HAL0.out.1]; exact hlt
        have HNb3 := Lib.hid (nb_at hasks3)
        go_wp2_with fail
        refine (tapeNext_any _ _ _ 3 _ hT3 (by omega) (by omega)).mono ?_
        rintro e w4 ⟨f, rfl, hf, hT4, hch4⟩
        have hf3 : f < 3 := by omega
        have hnt4 : ¬ At t ga := fun h => by have h1 := HAa.out ga rfl; have h2 : ga = t := h; have h3 := HTl.out; omega
        have hasks4 := own_ch hasks3 hch4 (fun i hi h => hnt4 (by have hi2 : ga = i := Option.some.inj hi; rw [hi2]; exact h))
        have HP4 := Lib.hid (HP3.out.ch hch4 (fun i hi h => by have h1 := own_lt HP3.out.row i hi; have h2 : i = t := h; have h3 := HTl.out; have h4 := HW2.out; omega) (tape_noBytes' hT3))
        have HCT4 : Hid (∀ c ∈ cs, Tx w4 bl c.p) := Lib.hid (fun c hc => (HCT3.out c hc).ch hch4 (tape_noBytes' hT3))
        have hchW4 := hchW3.trans (hch4.mono (T := fun i => i = t ∨ (Value.slice (some ⟨ga, 0, none⟩) m ca).ownBlock = some i) (fun _ _ h => .inl h))
        clear hT3 hchW3 hch4 hf HP3 HCT3 hasks3 HNb3
        obtain ⟨d0, d1, d2, d3, d4⟩ := pks_lit (own_row hasks4) hkl
        have f3 := hasks4.frozenAt (k * 5 + 3)
        obtain ⟨hs1, hs2⟩ := hasks4.stored (k * 5 + 3) (.int .i64 (f : Int))
        have hc5 : Ch (At ga) w4 _ := Ch.of_grown hs2
        have HNb4 := nb_at hasks4
        have hTt : Tp _ t B (M + 2 * (k + 1)) := ((hT4.ch hc5 (fun h => hnt4 h.symm) (fun i hi => by have h1 : i = ga := hi; have h2 := HAa.out ga rfl; have h3 := HBw.out; have h4 := HW1.out; omega)).more (by omega))
        have HP : Hid (PktS (w4.setCell ⟨ga, k * 5 + 3, none⟩ (.int .i64 (f : Int))) w2.heap.size 1024 Ao co ql) := Lib.hid (HP4.out.ch hc5 (fun i hi h => by have h1 := own_lt HP4.out.row i hi; have h2 : i = ga := h; have h3 := HAa.out ga rfl; omega) HNb4)
        have HCT : Hid (∀ c ∈ cs, Tx (w4.setCell ⟨ga, k * 5 + 3, none⟩ (.int .i64 (f : Int))) bl c.p) := Lib.hid (fun c hc => (HCT4.out c hc).ch hc5 HNb4)
        have hchW := hchW4.trans (hc5.mono (T := fun i => i = t ∨ (Value.slice (some ⟨ga, 0, none⟩) m ca).ownBlock = some i) (fun i _ h => .inr (by have h1 : i = ga := h; subst h1; rfl)))
        have HAL : Hid ((al.set k { al[k] with frm := (f : Int) }).length = m ∧ ∀ x ∈ al.set k { al[k] with frm := (f : Int) }, AskOk x) := Lib.hid ⟨by rw [List.length_set]; exact HAL0.out.1, fun x hx => by
          rcases List.mem_or_eq_of_mem_set hx with hx | rfl
          · exact HAL0.out.2 x hx
          · have h9 := HAL0.out.2 _ (List.getElem_mem hkl)
            exact ⟨h9.kind, h9.wf, by simp only; omega, by simp only; omega, h9.no⟩⟩
        have hasks : (w4.setCell ⟨ga, k * 5 + 3, none⟩ (.int .i64 (f : Int))).ownsRow w1.heap.size 55 5 (.slice (some ⟨ga, 0, none⟩) m ca) m (pksC (al.set k { al[k] with frm := (f : Int) })) := by
          rw [pks_setj (x := { al[k] with frm := (f : Int) }) (j := 3) (v := .int .i64 (f : Int)) hkl (by omega) rfl]; exact hs1
        clear hasks4 hT4 hchW4 HP4 HCT4 hs1 hs2 hc5 HNb4 hnt4
        go_upto_region 8 with (fail)
        clear d0 d1 d2 d3 d4 f3
        generalize al.set k { al[k] with frm := (f : Int) } = al' at *
        clear hkl HAL0
        generalize w4.setCell ⟨ga, k * 5 + 3, none⟩ (.int .i64 (f : Int)) = w5 at *
        have hkl : k < (al').length := by rw [HAL.out.1]; exact hlt
        have HAk := Lib.hid (HAL.out.2 _ (List.getElem_mem hkl))
        obtain ⟨d0, d1, d2, d3, d4⟩ := pks_lit (own_row hasks) hkl
        generalize hy : (al')[k] = y at *
        have HYk := HAk.out.kind
        have HYp := HAk.out.no
        obtain ⟨yk, ⟨y1, y2⟩, yf, yp⟩ := y
        simp only at HYk HYp
        subst HYk
        subst HYp
        simp only [List.length_nil] at d0 d1 d2 d3 d4
        have hrl := HLW.out _ hchW
        have hin : ChsIn w5 cs := fun c hc => ⟨(HCT.out c hc).row, (HTX.out c hc).2.2.1, by have := (HTX.out c hc).2.2.2; omega⟩
        have hyf1 := HAk.out.lo
        have hyf2 := HAk.out.hi
        simp only at hyf1 hyf2
        clear hy
        go_wp2_with fail
        refine (refServe37_any y1 y2 yf none 0 A lc cs _ hrl hin (by omega) (by omega) (by omega)).mono ?_
        clear hrl hin d0 d1 d2 d3 d4 hyf1 hyf2
        cases hsv : srvO cs 1 (y1, y2) yf with
        | none =>
          rintro e w6 ⟨rfl, hg6⟩
          have hga := grew_alloc w6 (.cells #[.int .i64 0, .int .u64 0, .int .i64 0, .int .i64 0, .slice none 0 0] 55)
          have hg7 := Grew.trans hg6 hga
          have hasks7 := own_below hasks hg7
          have HP7 := Lib.hid (HP.out.of hg7)
          have HCT7 : Hid (∀ c ∈ cs, Tx _ bl c.p) := Lib.hid (fun c hc => (HCT.out c hc).of hg7)
          have hT7 := hTt.of hg7
          have hch7 := hchW.next hg7
          clear hasks HP HCT hTt hchW hga hg6 hsv hg7
          unfold pk0
          go_wp2_with fail
          go_roundw
          case rel => exact ⟨k + 1, (al'), ql, Ao, co, by omega, by go_num, rfl, by omega, HAL, hasks7, HP7, HCT7, hT7.more (by omega), hch7⟩
          case measure => simp [intOf]; omega
        | some ys =>
          rintro e w6 ⟨A2, k2, rfl, hown2, hg6⟩
          obtain ⟨hyb, hyl⟩ := srv_ok HCB.out hsv
          have hcap := (own_cap hown2).1
          have HQ : Hid (PkQ 1024 ⟨2, (y1, y2), yf, ⟨A2, k2, ys⟩⟩) := Lib.hid ⟨HAk.out.wf, hyb, hyl, hcap⟩
          have htx := (Tx.own hown2).mono (HSZ.out _ hchW)
          have hga := grew_alloc w6 (.cells #[.int .i64 2, .int .u64 y1, .int .i64 y2, .int .i64 yf, .slice A2 ys.length k2] 55)
          have kB := Blk.new w6 55 #[.int .i64 2, .int .u64 y1, .int .i64 y2, .int .i64 yf, .slice A2 ys.length k2]
          have b0 := (kB.cell 0).trans (show _ = some (.int .i64 2) from rfl)
          have b1 := (kB.cell 1).trans (show _ = some (.int .u64 y1) from rfl)
          have b2 := (kB.cell 2).trans (show _ = some (.int .i64 y2) from rfl)
          have b3 := (kB.cell 3).trans (show _ = some (.int .i64 yf) from rfl)
          have b4 := (kB.cell 4).trans (show _ = some (.slice A2 ys.length k2) from rfl)
          simp only [pkV, Part.v]
          go_upto_region 10 with (fail)
          generalize w6.alloc (.cells #[.int .i64 2, .int .u64 y1, .int .i64 y2, .int .i64 yf, .slice A2 ys.length k2] 55) = w7 at *
          generalize w6.heap.size = g6 at *
          have hgb := grew_alloc w7 (.cells #[.int .i64 2, .int .u64 y1, .int .i64 y2, .int .i64 yf, .slice A2 ys.length k2] 55)
          have HV := Lib.hid (Blk.row (Blk.new w7 55 #[.int .i64 2, .int .u64 y1, .int .i64 y2, .int .i64 yf, .slice A2 ys.length k2]))
          have hgt := Grew.trans hga hgb
          have hg7 := Grew.trans hg6 hgt
          have hasks7 := own_below hasks hg7
          have HP7 := Lib.hid (HP.out.of hg7)
          have htx7 := htx.of hgt
          have HCT7 : Hid (∀ c ∈ cs, Tx _ bl c.p) := Lib.hid (fun c hc => (HCT.out c hc).of hg7)
          have hT7 := hTt.of hg7
          have hch7 := hchW.next hg7
          have hs7 := HSZ.out _ hch7
          have hrow7 := HP7.out.row
          have HX : Hid (∀ (A8 : Option Addr) (c8 : Nat) (w8 : World), w8.ownsRow w2.heap.size 55 5 (.slice A8 (ql.length + 1) c8) (ql.length + 1) (pksC ql ++ pkC ⟨2, (y1, y2), yf, ⟨A2, k2, ys⟩⟩) → (w7.alloc (.cells #[.int .i64 2, .int .u64 y1, .int .i64 y2, .int .i64 yf, .slice A2 ys.length k2] 55)).grownBy w8 (Value.slice Ao ql.length co).ownBlock →
              PktS w8 w2.heap.size 1024 A8 c8 (ql ++ [⟨2, (y1, y2), yf, ⟨A2, k2, ys⟩⟩]) ∧ w8.ownsRow w1.heap.size 55 5 (.slice (some ⟨ga, 0, none⟩) m ca) m (pksC (al')) ∧ (∀ c ∈ cs, Tx w8 bl c.p) ∧ Tp w8 t B (M + 2 * (k + 1)) ∧ Ch (fun i => i = t ∨ (Value.slice (some ⟨ga, 0, none⟩) m ca).ownBlock = some i) w2 w8) := Lib.hid (fun A8 c8 w8 h1 h2 => by
            have hc8 := Ch.of_own h2
            refine ⟨HP7.out.snoc htx7 HQ.out h1 h2, own_ch hasks7 hc8 (fun i hi h => by have h3 := HAa.out i hi; have h4 := own_lt HP7.out.row i h; omega), fun c hc => (HCT7.out c hc).ch hc8 HP7.out.noB, (tape_own hT7 HP7.out.row h2 (by decide) (Nat.le_trans HBw.out HG2.out.size)).more (by omega), hch7.nextNew hc8 (fun i hi => .inl (own_lt HP7.out.row i hi))⟩)
          clear hasks HP HCT hTt hchW hga hgb hg6 hsv hg7 hgt htx hown2 kB hyb hyl hcap hch7 hT7 HCT7 htx7 HP7 hasks7
          go_wp2_with (at_builtin; go_loud (refine wpList_append_row rfl (.tmp 41) (.tmp 43) rfl w2.heap.size elem_pk (by rfl) hrow7 _ (by rfl) (by rfl) HV.out (ones_pk ⟨2, (y1, y2), yf, ⟨A2, k2, ys⟩⟩) (by unfold maxLen; omega) (by omega) hs7 ?_); intro A8 c8 w8 hown8 hg8 _)
          obtain ⟨h1, h2, h3, h4, h5⟩ := HX.out A8 c8 w8 hown8 hg8
          have H1 := Lib.hid h1
          have H3 : Hid (∀ c ∈ cs, Tx w8 bl c.p) := Lib.hid h3
          clear hown8 hg8 HX hrow7 h1 h3 HV
          go_roundw
          case rel => exact ⟨k + 1, (al'), ql ++ [⟨2, (y1, y2), yf, ⟨A2, k2, ys⟩⟩], A8, c8, by omega, by go_num, by rw [List.length_append]; rfl, by rw [List.length_append, List.length_singleton]; omega, HAL, h2, H1, H3, h4, h5⟩
          case measure => simp [intOf]; omega
      · have HAL := HAL0
        have hasks := hasks3
        have HP := HP3
        have HCT := HCT3
        have hTt : Tp _ t B (M + 2 * (k + 1)) := hT3.more (by omega)
        have hchW := hchW3
        clear HAL0 hasks3 HP3 HCT3 hT3 hchW3
        have hkl : k < (al).length := by rw [HAL.out.1]; exact hlt
        have HAk := Lib.hid (HAL.out.2 _ (List.getElem_mem hkl))
        obtain ⟨d0, d1, d2, d3, d4⟩ := pks_lit (own_row hasks) hkl
        generalize hy : (al)[k] = y at *
        have HYk := HAk.out.kind
        have HYp := HAk.out.no
        obtain ⟨yk, ⟨y1, y2⟩, yf, yp⟩ := y
        simp only at HYk HYp
        subst HYk
        subst HYp
        simp only [List.length_nil] at d0 d1 d2 d3 d4
        have hrl := HLW.out _ hchW
        have hin : ChsIn w3 cs := fun c hc => ⟨(HCT.out c hc).row, (HTX.out c hc).2.2.1, by have := (HTX.out c hc).2.2.2; omega⟩
        have hyf1 := HAk.out.lo
        have hyf2 := HAk.out.hi
        simp only at hyf1 hyf2
        clear hy
        go_wp2_with fail
        refine (refServe37_any y1 y2 yf none 0 A lc cs _ hrl hin (by omega) (by omega) (by omega)).mono ?_
        clear hrl hin d0 d1 d2 d3 d4 hyf1 hyf2
        cases hsv : srvO cs 1 (y1, y2) yf with
        | none =>
          rintro e w6 ⟨rfl, hg6⟩
          have hga := grew_alloc w6 (.cells #[.int .i64 0, .int .u64 0, .int .i64 0, .int .i64 0, .slice none 0 0] 55)
          have hg7 := Grew.trans hg6 hga
          have hasks7 := own_below hasks hg7
          have HP7 := Lib.hid (HP.out.of hg7)
          have HCT7 : Hid (∀ c ∈ cs, Tx _ bl c.p) := Lib.hid (fun c hc => (HCT.out c hc).of hg7)
          have hT7 := hTt.of hg7
          have hch7 := hchW.next hg7
          clear hasks HP HCT hTt hchW hga hg6 hsv hg7
          unfold pk0
          go_wp2_with fail
          go_roundw
          case rel => exact ⟨k + 1, (al), ql, Ao, co, by omega, by go_num, rfl, by omega, HAL, hasks7, HP7, HCT7, hT7.more (by omega), hch7⟩
          case measure => simp [intOf]; omega
        | some ys =>
          rintro e w6 ⟨A2, k2, rfl, hown2, hg6⟩
          obtain ⟨hyb, hyl⟩ := srv_ok HCB.out hsv
          have hcap := (own_cap hown2).1
          have HQ : Hid (PkQ 1024 ⟨2, (y1, y2), yf, ⟨A2, k2, ys⟩⟩) := Lib.hid ⟨HAk.out.wf, hyb, hyl, hcap⟩
          have htx := (Tx.own hown2).mono (HSZ.out _ hchW)
          have hga := grew_alloc w6 (.cells #[.int .i64 2, .int .u64 y1, .int .i64 y2, .int .i64 yf, .slice A2 ys.length k2] 55)
          have kB := Blk.new w6 55 #[.int .i64 2, .int .u64 y1, .int .i64 y2, .int .i64 yf, .slice A2 ys.length k2]
          have b0 := (kB.cell 0).trans (show _ = some (.int .i64 2) from rfl)
          have b1 := (kB.cell 1).trans (show _ = some (.int .u64 y1) from rfl)
          have b2 := (kB.cell 2).trans (show _ = some (.int .i64 y2) from rfl)
          have b3 := (kB.cell 3).trans (show _ = some (.int .i64 yf) from rfl)
          have b4 := (kB.cell 4).trans (show _ = some (.slice A2 ys.length k2) from rfl)
          simp only [pkV, Part.v]
          go_upto_region 10 with (fail)
          generalize w6.alloc (.cells #[.int .i64 2, .int .u64 y1, .int .i64 y2, .int .i64 yf, .slice A2 ys.length k2] 55) = w7 at *
          generalize w6.heap.size = g6 at *
          have hgb := grew_alloc w7 (.cells #[.int .i64 2, .int .u64 y1, .int .i64 y2, .int .i64 yf, .slice A2 ys.length k2] 55)
          have HV := Lib.hid (Blk.row (Blk.new w7 55 #[.int .i64 2, .int .u64 y1, .int .i64 y2, .int .i64 yf, .slice A2 ys.length k2]))
          have hgt := Grew.trans hga hgb
          have hg7 := Grew.trans hg6 hgt
          have hasks7 := own_below hasks hg7
          have HP7 := Lib.hid (HP.out.of hg7)
          have htx7 := htx.of hgt
          have HCT7 : Hid (∀ c ∈ cs, Tx _ bl c.p) := Lib.hid (fun c hc => (HCT.out c hc).of hg7)
          have hT7 := hTt.of hg7
          have hch7 := hchW.next hg7
          have hs7 := HSZ.out _ hch7
          have hrow7 := HP7.out.row
          have HX : Hid (∀ (A8 : Option Addr) (c8 : Nat) (w8 : World), w8.ownsRow w2.heap.size 55 5 (.slice A8 (ql.length + 1) c8) (ql.length + 1) (pksC ql ++ pkC ⟨2, (y1, y2), yf, ⟨A2, k2, ys⟩⟩) → (w7.alloc (.cells #[.int .i64 2, .int .u64 y1, .int .i64 y2, .int .i64 yf, .slice A2 ys.length k2] 55)).grownBy w8 (Value.slice Ao ql.length co).ownBlock →
              PktS w8 w2.heap.size 1024 A8 c8 (ql ++ [⟨2, (y1, y2), yf, ⟨A2, k2, ys⟩⟩]) ∧ w8.ownsRow w1.heap.size 55 5 (.slice (some ⟨ga, 0, none⟩) m ca) m (pksC (al)) ∧ (∀ c ∈ cs, Tx w8 bl c.p) ∧ Tp w8 t B (M + 2 * (k + 1)) ∧ Ch (fun i => i = t ∨ (Value.slice (some ⟨ga, 0, none⟩) m ca).ownBlock = some i) w2 w8) := Lib.hid (fun A8 c8 w8 h1 h2 => by
            have hc8 := Ch.of_own h2
            refine ⟨HP7.out.snoc htx7 HQ.out h1 h2, own_ch hasks7 hc8 (fun i hi h => by have h3 := HAa.out i hi; have h4 := own_lt HP7.out.row i h; omega), fun c hc => (HCT7.out c hc).ch hc8 HP7.out.noB, (tape_own hT7 HP7.out.row h2 (by decide) (Nat.le_trans HBw.out HG2.out.size)).more (by omega), hch7.nextNew hc8 (fun i hi => .inl (own_lt HP7.out.row i hi))⟩)
          clear hasks HP HCT hTt hchW hga hgb hg6 hsv hg7 hgt htx hown2 kB hyb hyl hcap hch7 hT7 HCT7 htx7 HP7 hasks7
          go_wp2_with (at_builtin; go_loud (refine wpList_append_row rfl (.tmp 41) (.tmp 43) rfl w2.heap.size elem_pk (by rfl) hrow7 _ (by rfl) (by rfl) HV.out (ones_pk ⟨2, (y1, y2), yf, ⟨A2, k2, ys⟩⟩) (by unfold maxLen; omega) (by omega) hs7 ?_); intro A8 c8 w8 hown8 hg8 _)
          obtain ⟨h1, h2, h3, h4, h5⟩ := HX.out A8 c8 w8 hown8 hg8
          have H1 := Lib.hid h1
          have H3 : Hid (∀ c ∈ cs, Tx w8 bl c.p) := Lib.hid h3
          clear hown8 hg8 HX hrow7 h1 h3 HV
          go_roundw
          case rel => exact ⟨k + 1, (al), ql ++ [⟨2, (y1, y2), yf, ⟨A2, k2, ys⟩⟩], A8, c8, by omega, by go_num, by rw [List.length_append]; rfl, by rw [List.length_append, List.length_singleton]; omega, HAL, h2, H1, H3, h4, h5⟩
          case measure => simp [intOf]; omega
    · obtain rfl : k = m := by omega
      have HCW : Hid (Ch (At t) w wr) := Lib.hid ((Ch.of_below HG2.out).trans hch |>.mono (T := At t) (fun i hi h => by
        rcases h with h | h
        · exact h
        · have h1 := HAa.out i h; have h2 := HW1.out; omega)) 
      clear hch hasks0 HAL0 HCT0
      go_wp2_with fail
      refine (tapeNext_any _ _ _ 3 _ hT (by omega) (by omega)).mono ?_
      rintro e w3 ⟨nn, rfl, hx, hT3, hch3⟩
      have hn2 : nn < 3 := by omega
      have HP3 := Lib.hid (HP0.out.ch hch3 (fun i hi h => by have h1 := own_lt HP0.out.row i hi; have h2 : i = t := h; have h3 := HTl.out; have h4 := HW2.out; omega) (tape_noBytes' hT))
      have hch9 := HCW.out.trans hch3
      clear hT hch3 hx HP0 HCW
      go_wp2_with fail
      go_loopw [7, 12] (fun v n wr => ∃ (k j : Nat) (ql : List Pk) (Ao : Option Addr) (co : Nat), n = .int .i64 j ∧ j + k ≤ 2 ∧ v = .slice Ao ql.length co ∧ ql.length ≤ 9 + k ∧ Hid (PktS wr w2.heap.size (1024 + k) Ao co ql) ∧ Tp wr t B (M + 19 + 3 * k) ∧ Ch (At t) w wr) (fun _ n _ => (intOf n).toNat)
      case atStart => exact ⟨0, nn, ql, Ao, co, rfl, by omega, rfl, by omega, HP3, hT3.more (by omega), hch9⟩
      case round =>
        clear HP3 hT3 hch9
        obtain ⟨k, j, ql, Ao, co, rfl, hjk, rfl, hqk, HP, hT, hch⟩ := hrel
        by_cases hj : 0 < j ∧ 0 < ql.length
        · obtain ⟨hj1, hj2⟩ := hj
          have hjI : (0 : Int) < (j : Int) := by omega
          have hqI : (0 : Int) < (ql.length : Int) := by omega
          have hwj : wrap64 ((j : Int) - 1) = ((j - 1 : Nat) : Int) := by rw [Go.IntWalk.wrap64_in _ (by omega)]; omega
          have HWJ := Lib.hid hwj
          clear hwj
          go_wp2_with fail
          refine (tapeNext_any _ _ _ (ql.length : Int) _ hT (by omega) (by omega)).mono ?_
          rintro e w4 ⟨i, rfl, hi, hT4, hch4⟩
          have hil : i < ql.length := by omega
          have HP4 := Lib.hid (HP.out.ch hch4 (fun i hi h => by have h1 := own_lt HP.out.row i hi; have h2 : i = t := h; have h3 := HTl.out; have h4 := HW2.out; omega) (tape_noBytes' hT))
          have hcA := hch.trans hch4
          clear hT hch hch4 hi HP
          go_wp2_with fail
          refine (tapeNext_any _ _ _ 5 _ hT4 (by omega) (by omega)).mono ?_
          rintro e w5 ⟨x, rfl, hx, hT5, hch5⟩
          have hx5 : x < 5 := by omega
          have HP5 := Lib.hid (HP4.out.ch hch5 (fun i hi h => by have h1 := own_lt HP4.out.row i hi; have h2 : i = t := h; have h3 := HTl.out; have h4 := HW2.out; omega) (tape_noBytes' hT4))
          have hcB := hcA.trans hch5
          clear hT4 hcA hch5 hx HP4
          obtain ⟨g, rfl, hg1, hg2⟩ := own_some HP5.out.row hj2
          have hgt : ¬ At t g := fun h => by have h2 : g = t := h; have h3 := HTl.out; have h4 := HW2.out; omega
          obtain ⟨d0, d1, d2, d3, d4⟩ := pks_lit (own_row HP5.out.row) hil
          have HQ := Lib.hid (HP5.out.ok _ (List.getElem_mem hil))
          have HT := Lib.hid (HP5.out.tx _ (List.getElem_mem hil))
          obtain ⟨y, hy⟩ : ∃ y, ql[i] = y := ⟨_, rfl⟩
          rw [hy] at d0 d1 d2 d3 d4 HQ HT
          have HY := Lib.hid hy
          clear hy
          obtain ⟨yk, ⟨y1, y2⟩, yf, bA, bc, zs⟩ := y
          simp only at d0 d1 d2 d3 d4
          have hrow := HP5.out.row
          have hbs : w2.heap.size ≤ w5.heap.size := by omega
          have hx' : x = 0 ∨ x = 1 ∨ x = 2 ∨ x = 3 ∨ x = 4 := by omega
          rcases hx' with rfl | rfl | rfl | rfl | rfl
          · have hga := grew_alloc w5 (.cells #[.int .i64 yk, .int .u64 y1, .int .i64 y2, .int .i64 yf, .slice bA zs.length bc] 55)
            have HV := Lib.hid (Blk.row (Blk.new w5 55 #[.int .i64 yk, .int .u64 y1, .int .i64 y2, .int .i64 yf, .slice bA zs.length bc]))
            have HX : Hid (∀ (A8 : Option Addr) (c8 : Nat) (w8 : World), w8.ownsRow w2.heap.size 55 5 (.slice A8 (ql.length + 1) c8) (ql.length + 1) (pksC ql ++ pkC ⟨yk, (y1, y2), yf, ⟨bA, bc, zs⟩⟩) → (w5.alloc (.cells #[.int .i64 yk, .int .u64 y1, .int .i64 y2, .int .i64 yf, .slice bA zs.length bc] 55)).grownBy w8 (Value.slice (some ⟨g, 0, none⟩) ql.length co).ownBlock →
                PktS w8 w2.heap.size (1024 + (k + 1)) A8 c8 (ql ++ [⟨yk, (y1, y2), yf, ⟨bA, bc, zs⟩⟩]) ∧ Tp w8 t B (M + 19 + 3 * (k + 1)) ∧ Ch (At t) w w8) := Lib.hid (fun A8 c8 w8 h1 h2 => by
              have hP := (HP5.out.more (n := 1024 + (k + 1)) (by omega)).of hga
              exact ⟨hP.snoc (HT.out.of hga) (HQ.out.more (by omega)) h1 h2, (tape_own (hT5.of hga) hP.row h2 (by decide) (Nat.le_trans HBw.out HG2.out.size)).more (by omega), (hcB.next hga).nextNew (Ch.of_own h2) (fun i hi => .inl (Nat.le_trans HG2.out.size (own_lt hP.row i hi)))⟩)
            have hrow1 := own_below hrow hga
            have hbs1 : w2.heap.size ≤ (w5.alloc (.cells #[.int .i64 yk, .int .u64 y1, .int .i64 y2, .int .i64 yf, .slice bA zs.length bc] 55)).heap.size := Nat.le_trans hbs hga.size
            have hwj := HWJ.out
            clear hga hrow hbs hT5 hcB HP5 HQ HT HY
            go_wp2_with (at_builtin; go_loud (refine wpList_append_row rfl (.tmp 86) (.tmp 91) rfl w2.heap.size elem_pk (by rfl) hrow1 _ (by rfl) (by rfl) HV.out (ones_pk ⟨yk, (y1, y2), yf, ⟨bA, bc, zs⟩⟩) (by unfold maxLen; omega) (by omega) hbs1 ?_); intro A8 c8 w8 hown8 hg8 _)
            obtain ⟨h1, h2, h3⟩ := HX.out A8 c8 w8 hown8 hg8
            have H1 := Lib.hid h1
            clear hown8 hg8 HX hrow1 h1 HV hbs1
            go_roundw
            case rel => exact ⟨k + 1, j - 1, ql ++ [⟨yk, (y1, y2), yf, ⟨bA, bc, zs⟩⟩], A8, c8, by first | rfl | go_num, by omega, by rw [List.length_append]; rfl, by rw [List.length_append, List.length_singleton]; omega, H1, h2, h3⟩
            case measure => simp [intOf]; omega
          · have hzl : zs.length ≤ 1030 := by have h9 := HQ.out.len; simp only at h9; omega
            have hzc : zs.length ≤ bc := HQ.out.cap
            have HWp : Hid (IntKind.i64.wrap ((zs.length : Int) + 1) = (zs.length : Int) + 1 ∧ wrap64 ((zs.length : Int) + 1) = (zs.length : Int) + 1) := Lib.hid ⟨Go.IntWalk.i64_in _ (by omega), Go.IntWalk.wrap64_in _ (by omega)⟩
            go_upto_region 20 with (fail)
            refine wp_region_cls (Ch (At t) w5) 18 (by kernel_rfl) ?_
            have hc0 := (Ch.refl (At t) w5).drew
            obtain ⟨hw1, hw2⟩ := HWp.out
            refine AllC.head 0 15 (fuel := 6) (by first | exact fun h k => Grew.trans h k | exact fun h k => cls_grew h k) (hc0) (by rfl) (by kernel_rfl) ?_
            simp only [List.take_succ_cons, List.take_zero, List.drop_succ_cons, List.drop_zero]
            repeat (first
              | (refine HeadC.val (by rfl) ?_
                 apply Exists.intro
                 refine ⟨fun w' hw' => ?_, ?_⟩
                 · (have hf_0 := hw'.cell d4 hgt; (go_simp) <;> (try go_ints) <;> with_reducible rfl)
                 try simp only [Act.put, List.setIfInBounds_toArray, List.set_cons_zero, List.set_cons_succ])
              | (refine HeadC.shut (by rfl) ?_
                 try simp only [Act.put, List.setIfInBounds_toArray, List.set_cons_zero, List.set_cons_succ]))
            refine HeadC.nil ?_
            clear hw1 hw2
            refine AllC.one 15 (by kernel_rfl) rfl ?_
            intro wg hg K hK
            go_simp
            have hg1' : Grew w5 wg := (grew_drew w5).trans hg
            refine (tapeNext_any _ _ _ ((zs.length : Int) + 1) _ (hT5.of hg1') (by omega) (by omega)).mono ?_
            rintro e w6 ⟨y, rfl, hy, hT6, hch6⟩
            have hyl : y ≤ zs.length := by omega
            have hc6 : Ch (At t) w5 w6 := (Ch.of_below hg1').trans hch6
            refine hK.out _ _ hc6 ?_
            clear hK K hg hg1' hch6 hy hc0
            try simp only [Act.put, List.setIfInBounds_toArray, List.set_cons_zero, List.set_cons_succ]
            have hy1 : (0 : Int) ≤ (y : Int) := by omega
            have hy2 : (y : Int) ≤ (bc : Int) := by omega
            refine AllC.head 16 1 (fuel := 4) (by first | exact fun h k => Grew.trans h k | exact fun h k => cls_grew h k) (hc6) (by rfl) (by kernel_rfl) ?_
            simp only [List.take_succ_cons, List.take_zero, List.drop_succ_cons, List.drop_zero]
            repeat (first
              | (refine HeadC.val (by rfl) ?_
                 apply Exists.intro
                 refine ⟨fun w' hw' => ?_, ?_⟩
                 · (have hf_0 := hc6; (go_simp) <;> (try go_ints) <;> with_reducible rfl)
                 try simp only [Act.put, List.setIfInBounds_toArray, List.set_cons_zero, List.set_cons_succ])
              | (refine HeadC.shut (by rfl) ?_
                 try simp only [Act.put, List.setIfInBounds_toArray, List.set_cons_zero, List.set_cons_succ]))
            refine HeadC.nil ?_
            refine AllC.one 17 (by kernel_rfl) rfl ?_
            intro wg hg K hK
            have hc7 := hc6.next hg
            have hT7 := hT6.of hg
            have hrt : Row wg wg.heap.size bA ((zs.take y).map (.int .u8)) := by rw [List.map_take]; exact row_take (HT.out.ch hc7 (tape_noBytes' hT5)).row y
            have hs7 := Nat.le_trans hbs hc7.size
            refine step_append_row rfl (.const (.slice none 0 0)) (.tmp 111) rfl w2.heap.size elem_u8 (by rfl) (World.ownsRow_nil _ _ _ _) _ (by rfl) (by rw [List.length_map, List.length_take]; omega) hrt (ones_u8 _) (by unfold maxLen; omega) (by omega) hs7 ?_
            intro A8 c8 w8 hown8 hg8 hv8
            rw [List.nil_append, Nat.zero_add] at hown8
            rw [Nat.zero_add]
            have hc8 := hc7.next (grew_one hg8)
            have hT8 := hT7.of (grew_one hg8)
            refine hK.out _ _ hc8 ?_
            clear hK K hg hc7 hc6 hrt hs7 hg8 hv8 hT6 hT7
            try simp only [Act.put, List.setIfInBounds_toArray, List.set_cons_zero, List.set_cons_succ]
            refine AllC.tail 18 (by rfl) (by kernel_rfl) ?_
            intro wt hwt
            simp only [List.drop_succ_cons, List.drop_zero]
            have hcW : Ch (At t) w5 wt := hc8.next hwt
            have hTW := hT8.of hwt
            have hownW := own_below hown8 hwt
            have hcC := hcB.trans hcW
            have htx8 : Tx wt w2.heap.size ⟨A8, c8, zs.take y⟩ := Tx.own hownW
            have hcap8 := (own_cap hownW).1
            have HL1 := Lib.hid (show (zs.take y).length = y from by rw [List.length_take]; omega)
            have HPW := Lib.hid (HP5.out.ch hcW (fun i hi h => by have h1 := own_lt HP5.out.row i hi; have h2 : i = t := h; have h3 := HTl.out; have h4 := HW2.out; omega) (tape_noBytes' hT5))
            clear d0 d1 d2 d3 d4
            have HPx := Lib.hid ((HPW.out).more (n := 1024 + (k + 1)) (by omega))
            have f4 := HPx.out.row.frozenAt (i * 5 + 4)
            obtain ⟨e0, e1, e2, e3, e4⟩ := pks_lit (own_row HPx.out.row) hil
            rw [HY.out] at e0 e1 e2 e3 e4
            simp only at e0 e1 e2 e3 e4
            have hput := HPx.out.put (i := i) (j := 4) (x := ⟨yk, (y1, y2), yf, ⟨A8, c8, zs.take y⟩⟩) (v := .slice A8 y c8) hil (by omega) (by rw [HY.out]; simp [pkC, Part.v]; omega) (htx8) (⟨HQ.out.wf, fun z hz => HQ.out.byt z (List.mem_of_mem_take hz), by have h9 := HQ.out.len; simp only at h9 ⊢; rw [HL1.out]; omega, by simp only; rw [HL1.out]; exact hcap8⟩)
            have H1 := Lib.hid hput.1
            have h2 : Tp _ t B (M + 19 + 3 * (k + 1)) := (((hTW).ch hput.2 (fun h => hgt h.symm) (fun q hq => by have h1 : q = g := hq; have h2 := HBw.out; have h3 := HG2.out.size; omega)).more (by omega))
            have h3 : Ch (At t) w _ := (hcC).nextNew hput.2 (fun q hq => .inl (by have h1 : q = g := hq; have h3 := HG2.out.size; omega))
            have hwj := HWJ.out
            clear hput HPx HP5 hT5 hcB hcW hTW hcC htx8 hownW hown8 hc8 hT8 hwt HPW HT HQ HY hrow hbs
            go_wp2_with fail
            go_roundw
            case rel => exact ⟨k + 1, j - 1, ql.set i ⟨yk, (y1, y2), yf, ⟨A8, c8, zs.take y⟩⟩, some ⟨g, 0, none⟩, co, by first | rfl | go_num, by omega, by simp only [List.length_set], by rw [List.length_set]; omega, H1, h2, h3⟩
            case measure => simp [intOf]; omega
          · go_wp2_with fail
            refine (tapeNext_any _ _ _ 4 _ hT5 (by omega) (by omega)).mono ?_
            rintro e w6 ⟨kd, rfl, hkd, hT6, hch6⟩
            have HP6 := Lib.hid (HP5.out.ch hch6 (fun i hi h => by have h1 := own_lt HP5.out.row i hi; have h2 : i = t := h; have h3 := HTl.out; have h4 := HW2.out; omega) (tape_noBytes' hT5))
            have HT6 := Lib.hid (HT.out.ch hch6 (tape_noBytes' hT5))
            have hcC := hcB.trans hch6
            clear hT5 hcB hch6 hkd HP5 HT d0 d1 d2 d3 d4 hrow hbs
            have HPx := Lib.hid ((HP6.out).more (n := 1024 + (k + 1)) (by omega))
            have f4 := HPx.out.row.frozenAt (i * 5 + 0)
            obtain ⟨e0, e1, e2, e3, e4⟩ := pks_lit (own_row HPx.out.row) hil
            rw [HY.out] at e0 e1 e2 e3 e4
            simp only at e0 e1 e2 e3 e4
            have hput := HPx.out.put (i := i) (j := 0) (x := ⟨(kd : Int), (y1, y2), yf, ⟨bA, bc, zs⟩⟩) (v := .int .i64 (kd : Int)) hil (by omega) (by rw [HY.out]; simp [pkC, Part.v]) (HT6.out) (⟨HQ.out.wf, HQ.out.byt, by have h9 := HQ.out.len; simp only at h9 ⊢; omega, HQ.out.cap⟩)
            have H1 := Lib.hid hput.1
            have h2 : Tp _ t B (M + 19 + 3 * (k + 1)) := (((hT6).ch hput.2 (fun h => hgt h.symm) (fun q hq => by have h1 : q = g := hq; have h2 := HBw.out; have h3 := HG2.out.size; omega)).more (by omega))
            have h3 : Ch (At t) w _ := (hcC).nextNew hput.2 (fun q hq => .inl (by have h1 : q = g := hq; have h3 := HG2.out.size; omega))
            have hwj := HWJ.out
            clear hput HPx HT6 HP6 hT6 hcC HQ HY
            rw [Nat.add_zero] at H1 h2 h3 f4
            go_wp2_with fail
            go_roundw
            case rel => exact ⟨k + 1, j - 1, ql.set i ⟨(kd : Int), (y1, y2), yf, ⟨bA, bc, zs⟩⟩, some ⟨g, 0, none⟩, co, by first | rfl | go_num, by omega, by simp only [List.length_set], by rw [List.length_set]; omega, H1, h2, h3⟩
            case measure => simp [intOf]; omega
          · have HB := Lib.hid HT.out.row
            have hzl : zs.length ≤ 1030 := by have h9 := HQ.out.len; simp only at h9; omega
            go_wp2_with (first
              | (at_builtin; refine wpList_append_row rfl (.const (.slice none 0 0)) (.tmp 131) rfl w2.heap.size elem_u8 (by rfl) (World.ownsRow_nil _ _ _ _) _ (by rfl) (by simp) HB.out (ones_u8 zs) (by unfold maxLen; omega) (by omega) hbs ?_; intro A6 c6 w6 hown6 hg6 hv6; rw [List.nil_append, Nat.zero_add] at hown6; rw [Nat.zero_add] at hv6; rw [Nat.zero_add]; have hga := grew_alloc w6 (.cells #[.int .u8 1] 5); have HV := Lib.hid (Blk.row (Blk.new w6 5 #[.int .u8 1])); have hown7 := own_below hown6 hga; have hs7 : w2.heap.size ≤ (w6.alloc (.cells #[.int .u8 1] 5)).heap.size := Nat.le_trans hbs (Nat.le_trans (grew_one hg6).size hga.size))
              | (at_builtin; refine wpList_append_row rfl (.tmp 132) (.tmp 133) rfl w2.heap.size elem_u8 (by rfl) hown7 _ (by rfl) (by rfl) HV.out (by simp [Value.oneCell']) (by unfold maxLen; omega) (by omega) hs7 ?_; intro A8 c8 w8 hown8 hg8 _; have hG8 : Grew w5 w8 := grew_three hg6 hv6 hga hg8; have HPx := Lib.hid (PktS.more (n := 1024 + (k + 1)) (HP5.out.of hG8) (by omega)); have f4 := HPx.out.row.frozenAt (i * 5 + 4); have e4 := cell_up hG8 d4))
            have hT8 := hT5.of hG8
            have hcC := hcB.next hG8
            have htx8 : Tx w8 w2.heap.size ⟨A8, c8, zs ++ [1]⟩ := Tx.own (n := zs.length + 1) (by rw [List.map_append]; exact hown8)
            have hcap8 := (own_cap hown8).1
            have HL1 := Lib.hid (show (zs ++ [(1 : Int)]).length = zs.length + 1 from by rw [List.length_append]; rfl)
            have hput := HPx.out.put (i := i) (j := 4) (x := ⟨yk, (y1, y2), yf, ⟨A8, c8, zs ++ [1]⟩⟩) (v := .slice A8 (zs.length + 1) c8) hil (by omega) (by rw [HY.out]; simp [pkC, Part.v]) (htx8) (⟨HQ.out.wf, fun z hz => (List.mem_append.1 hz).elim (HQ.out.byt z) (fun h => by rw [List.mem_singleton.1 h]; omega), by have h9 := HQ.out.len; simp only at h9 ⊢; rw [HL1.out]; omega, by simp only; rw [HL1.out]; exact hcap8⟩)
            have H1 := Lib.hid hput.1
            have h2 : Tp _ t B (M + 19 + 3 * (k + 1)) := (((hT8).ch hput.2 (fun h => hgt h.symm) (fun q hq => by have h1 : q = g := hq; have h2 := HBw.out; have h3 := HG2.out.size; omega)).more (by omega))
            have h3 : Ch (At t) w _ := (hcC).nextNew hput.2 (fun q hq => .inl (by have h1 : q = g := hq; have h3 := HG2.out.size; omega))
            have hwj := HWJ.out
            clear hput HPx HP5 hT5 hcB hG8 hT8 hcC htx8 hown8 hg8 hown7 hown6 hg6 HV HB HT HQ HY
            go_roundw
            case rel => exact ⟨k + 1, j - 1, ql.set i ⟨yk, (y1, y2), yf, ⟨A8, c8, zs ++ [1]⟩⟩, some ⟨g, 0, none⟩, co, by first | rfl | go_num, by omega, by simp only [List.length_set], by rw [List.length_set]; omega, H1, h2, h3⟩
            case measure => simp [intOf]; omega
          · have hzl : zs.length ≤ 1030 := by have h9 := HQ.out.len; simp only at h9; omega
            have HZc : Hid (zs.length ≤ bc) := Lib.hid HQ.out.cap
            by_cases hz0 : 1 ≤ zs.length
            · obtain ⟨adb, rfl⟩ : ∃ adb, bA = some adb := by
                rcases HT.out with h | ⟨adb, _, _, h, _⟩
                · simp only at h; rw [h] at hz0; simp at hz0
                · exact ⟨adb, h⟩
              have hz1I : (1 : Int) ≤ (zs.length : Int) := by omega
              have hz2I : (1 : Int) ≤ (bc : Int) := by have := HZc.out; omega
              have hmn : min (1 : Int) (zs.length : Int) = 1 := by omega
              go_upto_region 16 with (fail)
              refine wp_region_cls (Ch (At t) w5) 20 (by kernel_rfl) ?_
              have hc0 := (Ch.refl (At t) w5).drew
              refine AllC.head 0 3 (fuel := 20) (by first | exact fun h k => Grew.trans h k | exact fun h k => cls_grew h k) (hc0) (by rfl) (by kernel_rfl) ?_
              simp only [List.take_succ_cons, List.take_zero, List.drop_succ_cons, List.drop_zero]
              repeat (first
                | (refine HeadC.val (by rfl) ?_
                   apply Exists.intro
                   refine ⟨fun w' hw' => ?_, ?_⟩
                   · (have hf_0 := hc0; (go_simp) <;> (try go_ints) <;> with_reducible rfl)
                   try simp only [Act.put, List.setIfInBounds_toArray, List.set_cons_zero, List.set_cons_succ])
                | (refine HeadC.shut (by rfl) ?_
                   try simp only [Act.put, List.setIfInBounds_toArray, List.set_cons_zero, List.set_cons_succ]))
              refine HeadC.nil ?_
              refine AllC.head 6 13 (fuel := 7) (by first | exact fun h k => Grew.trans h k | exact fun h k => cls_grew h k) (hc0) (by rfl) (by kernel_rfl) ?_
              simp only [List.take_succ_cons, List.take_zero, List.drop_succ_cons, List.drop_zero]
              repeat (first
                | (refine HeadC.val (by rfl) ?_
                   apply Exists.intro
                   refine ⟨fun w' hw' => ?_, ?_⟩
                   · (have hf_0 := hw'.cell d4 hgt; (go_simp) <;> (try go_ints) <;> with_reducible rfl)
                   try simp only [Act.put, List.setIfInBounds_toArray, List.set_cons_zero, List.set_cons_succ])
                | (refine HeadC.shut (by rfl) ?_
                   try simp only [Act.put, List.setIfInBounds_toArray, List.set_cons_zero, List.set_cons_succ]))
              refine HeadC.nil ?_
              refine AllC.one 3 (by kernel_rfl) rfl ?_
              intro wg hg K hK
              go_simp
              have hg1' : Grew w5 wg := (grew_drew w5).trans hg
              refine (tapeNext_any _ _ _ 9 _ (hT5.of hg1') (by omega) (by omega)).mono ?_
              rintro e w6 ⟨y, rfl, hy, hT6, hch6⟩
              have hy9 : y < 9 := by omega
              have hc6 : Ch (At t) w5 w6 := (Ch.of_below hg1').trans hch6
              refine hK.out _ _ hc6 ?_
              clear hK K hg hg1' hch6 hy hc0
              try simp only [Act.put, List.setIfInBounds_toArray, List.set_cons_zero, List.set_cons_succ]
              have hwu : IntKind.u8.wrap (y : Int) = (y : Int) := by
                have h9 : y = 0 ∨ y = 1 ∨ y = 2 ∨ y = 3 ∨ y = 4 ∨ y = 5 ∨ y = 6 ∨ y = 7 ∨ y = 8 := by omega
                rcases h9 with rfl | rfl | rfl | rfl | rfl | rfl | rfl | rfl | rfl <;> rfl
              refine AllC.head 4 1 (fuel := 5) (by first | exact fun h k => Grew.trans h k | exact fun h k => cls_grew h k) (hc6) (by rfl) (by kernel_rfl) ?_
              simp only [List.take_succ_cons, List.take_zero, List.drop_succ_cons, List.drop_zero]
              repeat (first
                | (refine HeadC.val (by rfl) ?_
                   apply Exists.intro
                   refine ⟨fun w' hw' => ?_, ?_⟩
                   · (have hf_0 := hc6; (go_simp) <;> (try go_ints) <;> with_reducible rfl)
                   try simp only [Act.put, List.setIfInBounds_toArray, List.set_cons_zero, List.set_cons_succ])
                | (refine HeadC.shut (by rfl) ?_
                   try simp only [Act.put, List.setIfInBounds_toArray, List.set_cons_zero, List.set_cons_succ]))
              refine HeadC.nil ?_
              refine AllC.one 5 (by kernel_rfl) rfl ?_
              intro wg hg K hK
              go_simp
              have hga := hg.trans (grew_alloc wg (.cells #[.int .u8 y] 5))
              have hO6 := own_lit wg w5.heap.size 5 #[.int .u8 y] (Nat.le_trans hc6.size hg.size) (by unfold maxLen; simp)
              have hc7 := hc6.next hga
              have hT7 := hT6.of hga
              refine hK.out _ _ hc7 ?_
              clear hK K hg hc6 hga hT6 hwu
              try simp only [Act.put, List.setIfInBounds_toArray, List.set_cons_zero, List.set_cons_succ]
              generalize wg.alloc (.cells #[.int .u8 y] 5) = w7 at *
              generalize wg.heap.size = g7 at *
              clear wg
              refine AllC.one 19 (by kernel_rfl) rfl ?_
              intro wg hg K hK
              have hc8 := hc7.next hg
              have hO7 := own_below hO6 hg
              have hT8 := hT7.of hg
              have hrc := row_tail (HT.out.ch hc8 (tape_noBytes' hT5)).row bc HZc.out
              refine step_append_row rfl (.tmp 67) (.tmp 80) rfl w5.heap.size elem_u8 (by rfl) hO7 _ (by rfl) (by rw [List.length_map, List.length_drop, Nat.mul_one]) hrc (ones_u8 _) (by simp only [List.size_toArray, List.length_cons, List.length_nil]; unfold maxLen; omega) (by simp only [List.size_toArray, List.length_cons, List.length_nil]; omega) hc8.size ?_
              intro A8 c8 w8 hown8 hg8 _
              have e9 : 1 + (zs.length - 1) = zs.length := by omega
              have hown8' : w8.ownsRow w5.heap.size 5 1 (.slice A8 zs.length c8) zs.length (((y : Int) :: zs.drop 1).map (.int .u8)) := by
                have h : w8.ownsRow w5.heap.size 5 1 (.slice A8 (1 + (zs.length - 1)) c8) (1 + (zs.length - 1)) (((y : Int) :: zs.drop 1).map (.int .u8)) := hown8
                rwa [e9] at h
              have hc9 : Ch (At t) w5 w8 := hc8.nextNew (Ch.of_own hg8) (fun q hq => .inl (own_lt hO7 q hq))
              have hT9 := tape_own hT8 hO7 hg8 (by decide) (by have h2 := HBw.out; have h3 := HG2.out.size; omega)
              refine hK.out _ _ hc9 ?_
              clear hK K hg hc7 hO6 hc8 hO7 hT7 hT8 hrc hg8 hown8
              try simp only [Act.put, List.setIfInBounds_toArray, List.set_cons_zero, List.set_cons_succ]
              refine AllC.tail 20 (by rfl) (by kernel_rfl) ?_
              intro wt hwt
              simp only [List.drop_succ_cons, List.drop_zero]
              have hcW : Ch (At t) w5 wt := hc9.next hwt
              have hTW := hT9.of hwt
              have hownW := own_below hown8' hwt
              have hcC := hcB.trans hcW
              have htx8 : Tx wt w2.heap.size ⟨A8, c8, (y : Int) :: zs.drop 1⟩ := (Tx.own hownW).mono hbs
              have hcap8 := (own_cap hownW).1
              have HL1 := Lib.hid (show ((y : Int) :: zs.drop 1).length = zs.length from by simp; omega)
              have HPW := Lib.hid (HP5.out.ch hcW (fun i hi h => by have h1 := own_lt HP5.out.row i hi; have h2 : i = t := h; have h3 := HTl.out; have h4 := HW2.out; omega) (tape_noBytes' hT5))
              clear d0 d1 d2 d3 d4
              have HPx := Lib.hid ((HPW.out).more (n := 1024 + (k + 1)) (by omega))
              have f4 := HPx.out.row.frozenAt (i * 5 + 4)
              obtain ⟨e0, e1, e2, e3, e4⟩ := pks_lit (own_row HPx.out.row) hil
              rw [HY.out] at e0 e1 e2 e3 e4
              simp only at e0 e1 e2 e3 e4
              have hput := HPx.out.put (i := i) (j := 4) (x := ⟨yk, (y1, y2), yf, ⟨A8, c8, (y : Int) :: zs.drop 1⟩⟩) (v := .slice A8 zs.length c8) hil (by omega) (by rw [HY.out]; simp only [pkC, Part.v, HL1.out, List.set_cons_succ, List.set_cons_zero]) (htx8) (⟨HQ.out.wf, fun z hz => (List.mem_cons.1 hz).elim (fun h => by rw [h]; omega) (fun h => HQ.out.byt z (List.mem_of_mem_drop h)), by have h9 := HQ.out.len; simp only at h9 ⊢; rw [HL1.out]; omega, by simp only; rw [HL1.out]; exact hcap8⟩)
              have H1 := Lib.hid hput.1
              have h2 : Tp _ t B (M + 19 + 3 * (k + 1)) := (((hTW).ch hput.2 (fun h => hgt h.symm) (fun q hq => by have h1 : q = g := hq; have h2 := HBw.out; have h3 := HG2.out.size; omega)).more (by omega))
              have h3 : Ch (At t) w _ := (hcC).nextNew hput.2 (fun q hq => .inl (by have h1 : q = g := hq; have h3 := HG2.out.size; omega))
              have hwj := HWJ.out
              clear hput HPx HP5 hT5 hcB hcW hTW hcC htx8 hownW hown8' hc9 hT9 hwt HPW HT HQ HY hrow hbs e9
              go_wp2_with fail
              go_roundw
              case rel => exact ⟨k + 1, j - 1, ql.set i ⟨yk, (y1, y2), yf, ⟨A8, c8, (y : Int) :: zs.drop 1⟩⟩, some ⟨g, 0, none⟩, co, by first | rfl | go_num, by omega, by simp only [List.length_set], by rw [List.length_set]; omega, H1, h2, h3⟩
              case measure => simp [intOf]; omega
            · have HZ0 : Hid (zs.length = 0) := Lib.hid (by omega)
              have hz1I : (0 : Int) ≤ (bc : Int) := by omega
              have hz2I : (0 : Int) ≤ (zs.length : Int) := by omega
              have hmn : min (1 : Int) (zs.length : Int) = 0 := by omega
              clear hz0
              go_upto_region 16 with (fail)
              refine wp_region_cls (Ch (At t) w5) 20 (by kernel_rfl) ?_
              have hc0 := (Ch.refl (At t) w5).drew
              refine AllC.head 0 3 (fuel := 20) (by first | exact fun h k => Grew.trans h k | exact fun h k => cls_grew h k) (hc0) (by rfl) (by kernel_rfl) ?_
              simp only [List.take_succ_cons, List.take_zero, List.drop_succ_cons, List.drop_zero]
              repeat (first
                | (refine HeadC.val (by rfl) ?_
                   apply Exists.intro
                   refine ⟨fun w' hw' => ?_, ?_⟩
                   · (have hf_0 := hc0; (go_simp) <;> (try go_ints) <;> with_reducible rfl)
                   try simp only [Act.put, List.setIfInBounds_toArray, List.set_cons_zero, List.set_cons_succ])
                | (refine HeadC.shut (by rfl) ?_
                   try simp only [Act.put, List.setIfInBounds_toArray, List.set_cons_zero, List.set_cons_succ]))
              refine HeadC.nil ?_
              refine AllC.head 6 13 (fuel := 7) (by first | exact fun h k => Grew.trans h k | exact fun h k => cls_grew h k) (hc0) (by rfl) (by kernel_rfl) ?_
              simp only [List.take_succ_cons, List.take_zero, List.drop_succ_cons, List.drop_zero]
              repeat (first
                | (refine HeadC.val (by rfl) ?_
                   apply Exists.intro
                   refine ⟨fun w' hw' => ?_, ?_⟩
                   · (have hf_0 := hw'.cell d4 hgt; (go_simp) <;> (try go_ints) <;> with_reducible rfl)
                   try simp only [Act.put, List.setIfInBounds_toArray, List.set_cons_zero, List.set_cons_succ])
                | (refine HeadC.shut (by rfl) ?_
                   try simp only [Act.put, List.setIfInBounds_toArray, List.set_cons_zero, List.set_cons_succ]))
              refine HeadC.nil ?_
              refine AllC.one 3 (by kernel_rfl) rfl ?_
              intro wg hg K hK
              go_simp
              have hg1' : Grew w5 wg := (grew_drew w5).trans hg
              refine (tapeNext_any _ _ _ 9 _ (hT5.of hg1') (by omega) (by omega)).mono ?_
              rintro e w6 ⟨y, rfl, hy, hT6, hch6⟩
              have hy9 : y < 9 := by omega
              have hc6 : Ch (At t) w5 w6 := (Ch.of_below hg1').trans hch6
              refine hK.out _ _ hc6 ?_
              clear hK K hg hg1' hch6 hy hc0
              try simp only [Act.put, List.setIfInBounds_toArray, List.set_cons_zero, List.set_cons_succ]
              have hwu : IntKind.u8.wrap (y : Int) = (y : Int) := by
                have h9 : y = 0 ∨ y = 1 ∨ y = 2 ∨ y = 3 ∨ y = 4 ∨ y = 5 ∨ y = 6 ∨ y = 7 ∨ y = 8 := by omega
                rcases h9 with rfl | rfl | rfl | rfl | rfl | rfl | rfl | rfl | rfl <;> rfl
              refine AllC.head 4 1 (fuel := 5) (by first | exact fun h k => Grew.trans h k | exact fun h k => cls_grew h k) (hc6) (by rfl) (by kernel_rfl) ?_
              simp only [List.take_succ_cons, List.take_zero, List.drop_succ_cons, List.drop_zero]
              repeat (first
                | (refine HeadC.val (by rfl) ?_
                   apply Exists.intro
                   refine ⟨fun w' hw' => ?_, ?_⟩
                   · (have hf_0 := hc6; (go_simp) <;> (try go_ints) <;> with_reducible rfl)
                   try simp only [Act.put, List.setIfInBounds_toArray, List.set_cons_zero, List.set_cons_succ])
                | (refine HeadC.shut (by rfl) ?_
                   try simp only [Act.put, List.setIfInBounds_toArray, List.set_cons_zero, List.set_cons_succ]))
              refine HeadC.nil ?_
              refine AllC.one 5 (by kernel_rfl) rfl ?_
              intro wg hg K hK
              go_simp
              have hga := hg.trans (grew_alloc wg (.cells #[.int .u8 y] 5))
              have hO6 := own_lit wg w5.heap.size 5 #[.int .u8 y] (Nat.le_trans hc6.size hg.size) (by unfold maxLen; simp)
              have hc7 := hc6.next hga
              have hT7 := hT6.of hga
              refine hK.out _ _ hc7 ?_
              clear hK K hg hc6 hga hT6 hwu
              try simp only [Act.put, List.setIfInBounds_toArray, List.set_cons_zero, List.set_cons_succ]
              generalize wg.alloc (.cells #[.int .u8 y] 5) = w7 at *
              generalize wg.heap.size = g7 at *
              clear wg
              refine AllC.one 19 (by kernel_rfl) rfl ?_
              intro wg hg K hK
              have hc8 := hc7.next hg
              have hO7 := own_below hO6 hg
              have hT8 := hT7.of hg
              have hrc : ∀ a, Row wg wg.heap.size a (([] : List Int).map (Value.int .u8)) := fun a => Row.nil
              refine step_append_row rfl (.tmp 67) (.tmp 80) rfl w5.heap.size elem_u8 (by rfl) hO7 _ (by rfl) (by have hz9 := HZ0.out; simp only [List.map_nil, List.length_nil]; omega) (hrc _) (ones_u8 _) (by simp only [List.size_toArray, List.length_cons, List.length_nil]; have hz9 := HZ0.out; unfold maxLen; omega) (by simp only [List.size_toArray, List.length_cons, List.length_nil]; omega) hc8.size ?_
              intro A8 c8 w8 hown8 hg8 _
              have e9 : 1 + zs.length = (1 + zs.length) := by have hz9 := HZ0.out; omega
              have hown8' : w8.ownsRow w5.heap.size 5 1 (.slice A8 (1 + zs.length) c8) (1 + zs.length) (((y : Int) :: ([] : List Int)).map (.int .u8)) := by
                have h : w8.ownsRow w5.heap.size 5 1 (.slice A8 (1 + zs.length) c8) (1 + zs.length) (((y : Int) :: ([] : List Int)).map (.int .u8)) := hown8
                rwa [e9] at h
              have hc9 : Ch (At t) w5 w8 := hc8.nextNew (Ch.of_own hg8) (fun q hq => .inl (own_lt hO7 q hq))
              have hT9 := tape_own hT8 hO7 hg8 (by decide) (by have h2 := HBw.out; have h3 := HG2.out.size; omega)
              refine hK.out _ _ hc9 ?_
              clear hK K hg hc7 hO6 hc8 hO7 hT7 hT8 hrc hg8 hown8
              try simp only [Act.put, List.setIfInBounds_toArray, List.set_cons_zero, List.set_cons_succ]
              refine AllC.tail 20 (by rfl) (by kernel_rfl) ?_
              intro wt hwt
              simp only [List.drop_succ_cons, List.drop_zero]
              have hcW : Ch (At t) w5 wt := hc9.next hwt
              have hTW := hT9.of hwt
              have hownW := own_below hown8' hwt
              have hcC := hcB.trans hcW
              have htx8 : Tx wt w2.heap.size ⟨A8, c8, (y : Int) :: ([] : List Int)⟩ := (Tx.own hownW).mono hbs
              have hcap8 := (own_cap hownW).1
              have HL1 := Lib.hid (show ((y : Int) :: ([] : List Int)).length = (1 + zs.length) from by have hz9 := HZ0.out; rw [hz9]; rfl)
              have HPW := Lib.hid (HP5.out.ch hcW (fun i hi h => by have h1 := own_lt HP5.out.row i hi; have h2 : i = t := h; have h3 := HTl.out; have h4 := HW2.out; omega) (tape_noBytes' hT5))
              clear d0 d1 d2 d3 d4
              have HPx := Lib.hid ((HPW.out).more (n := 1024 + (k + 1)) (by omega))
              have f4 := HPx.out.row.frozenAt (i * 5 + 4)
              obtain ⟨e0, e1, e2, e3, e4⟩ := pks_lit (own_row HPx.out.row) hil
              rw [HY.out] at e0 e1 e2 e3 e4
              simp only at e0 e1 e2 e3 e4
              have hput := HPx.out.put (i := i) (j := 4) (x := ⟨yk, (y1, y2), yf, ⟨A8, c8, (y : Int) :: ([] : List Int)⟩⟩) (v := .slice A8 (1 + zs.length) c8) hil (by omega) (by rw [HY.out]; simp only [pkC, Part.v, HL1.out, List.set_cons_succ, List.set_cons_zero]) (htx8) (⟨HQ.out.wf, fun z hz => (List.mem_cons.1 hz).elim (fun h => by rw [h]; omega) (fun h => (by cases h)), by have h9 := HQ.out.len; simp only at h9 ⊢; rw [HL1.out]; omega, by simp only; rw [HL1.out]; exact hcap8⟩)
              have H1 := Lib.hid hput.1
              have h2 : Tp _ t B (M + 19 + 3 * (k + 1)) := (((hTW).ch hput.2 (fun h => hgt h.symm) (fun q hq => by have h1 : q = g := hq; have h2 := HBw.out; have h3 := HG2.out.size; omega)).more (by omega))
              have h3 : Ch (At t) w _ := (hcC).nextNew hput.2 (fun q hq => .inl (by have h1 : q = g := hq; have h3 := HG2.out.size; omega))
              have hwj := HWJ.out
              clear hput HPx HP5 hT5 hcB hcW hTW hcC htx8 hownW hown8' hc9 hT9 hwt HPW HT HQ HY hrow hbs e9
              go_wp2_with fail
              go_roundw
              case rel => exact ⟨k + 1, j - 1, ql.set i ⟨yk, (y1, y2), yf, ⟨A8, c8, (y : Int) :: ([] : List Int)⟩⟩, some ⟨g, 0, none⟩, co, by first | rfl | go_num, by omega, by simp only [List.length_set], by rw [List.length_set]; omega, H1, h2, h3⟩
              case measure => simp [intOf]; omega
        · have HCe : Hid (PktS wr w.heap.size 1026 Ao co ql) := Lib.hid ((HP.out.low HG2.out.size).more (by omega))
          have HTe := Lib.hid (hT.more (M' := M + 40) (by omega))
          have HHe := Lib.hid hch
          clear HP hT hch
          by_cases hj1 : 0 < j
          · have hq0 : ¬ (0 : Int) < (ql.length : Int) := by omega
            have hjI : (0 : Int) < (j : Int) := by omega
            clear hj
            go_wp2_with fail
            go_ret
            exact ⟨Ao, co, ql, rfl, HCe.out, by omega, HTe.out, HHe.out⟩
          · obtain rfl : j = 0 := by omega
            clear hj
            go_wp2_with fail
            go_ret
            exact ⟨Ao, co, ql, rfl, HCe.out, by omega, HTe.out, HHe.out⟩
end

end Go.Proofs.Ytpoiejgoongllaa
