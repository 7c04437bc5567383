/-
  stockyardlaw25.stock: chunks, most of them right ones.
-/
import Derived.Test.YtnjhipnfhapngaaBack25
namespace Go.Proofs.Ytnjhipnfhapngaa
set_option linter.unusedVariables false
set_option linter.unusedSimpArgs false
set_option linter.unnecessarySimpa false
open Go.RowKit
attribute [local go_sem ↓] Go.wp_at_zero Go.wp_at_succ

theorem own_litN (w : World) (base : Nat) (e : TypeId) (size m : Nat) (cs : Array Value) (hb : base ≤ w.heap.size) (hc : cs.size = m * size) (hm : m ≤ maxLen) : (w.alloc (.cells cs e)).ownsRow base e size (.slice (some ⟨w.heap.size, 0, none⟩) m m) m cs.toList :=
  ⟨by simpa using hc, .inr ⟨w.heap.size, m, cs, rfl, hb, heap_alloc_new w _, Nat.le_refl _, hm, hc, List.take_of_length_le (by simp [hc])⟩⟩
/-- what stock gives -/
def StockOk (l : List ChZ) : Prop := ∀ c ∈ l, WfI c.id ∧ Byt c.p.zs ∧ c.p.zs.length ≤ c.p.cap ∧ c.p.zs.length ≤ 10
theorem stock_one {x : IdZ} {A : Option Addr} {qc ql : Nat} {qs : List Int} (hx : WfI x) (h : qs.length = ql ∧ Byt qs ∧ qs.length ≤ qc ∧ qs.length ≤ 10) : WfI (ChZ.mk x ⟨A, qc, qs⟩).id ∧ Byt (ChZ.mk x ⟨A, qc, qs⟩).p.zs ∧ (ChZ.mk x ⟨A, qc, qs⟩).p.zs.length ≤ (ChZ.mk x ⟨A, qc, qs⟩).p.cap ∧ (ChZ.mk x ⟨A, qc, qs⟩).p.zs.length ≤ 10 := ⟨hx, h.2⟩
theorem StockOk.okC {l : List ChZ} (h : StockOk l) : OkC l := fun c hc => by obtain ⟨h1, h2, h3, h4⟩ := h c hc; exact ⟨h1, h2, h3, by omega⟩
def StockRes (t B M : Nat) (base n : Nat) (w : World) (e : Ending) (w' : World) : Prop := ∃ (cl : List ChZ) (A : Option Addr) (c : Nat), e = .returned (.slice A cl.length c) ∧ StockOk cl ∧ cl.length ≤ 2 * n ∧
  w'.ownsRow w.heap.size 53 3 (.slice A cl.length c) cl.length (chsC cl) ∧ Txs w' base (cl.map (·.p)) ∧ Tp w' t B (M + 2 * n) ∧ Ch (At t) w w'

set_option maxRecDepth 4000 in
set_option maxHeartbeats 4000000 in
theorem stock25_any (t B M bl base : Nat) (L : Option Addr) (lc : Nat) (ps : List Part) (w : World) (hT : Tp w t B M) (hownp : w.ownsRow bl 34 1 (.slice L ps.length lc) ps.length (ps.map Part.v)) (htb : t < bl) (hTx : Txs w base ps) (hbs : base ≤ w.heap.size) (hS : SmallP ps) (hcp : Caps ps) (hn : ps.length ≤ 1000) (hM : M ≤ 281474976710656) (hBw : B ≤ w.heap.size) :
    Calls Try.prog 17 #[.pointer (some ⟨t, 0, none⟩), .slice L ps.length lc] w (StockRes t B M base ps.length w) := by
  have htw := hT.lt
  have HS := Lib.hid hS
  have HCp := Lib.hid hcp
  have HTx := Lib.hid (fun W (h : Ch (At t) w W) => hTx.ch h (tape_noBytes' hT))
  have HOw := Lib.hid (fun W (h : Ch (At t) w W) => own_ch hownp h (fun g hg hs => by have := own_lt hownp g hg; have h' : g = t := hs; omega))
  clear hS hcp hTx hownp
  go_enter Try.func17, Try.ntmps17
  go_wp2_with fail
  go_loopw [5, 6] (fun s i wr => ∃ (k : Nat) (cl : List ChZ) (A : Option Addr) (c M1 : Nat), k ≤ ps.length ∧ i = .int .i64 k ∧ s = .slice A cl.length c ∧ Hid (StockOk cl) ∧ cl.length ≤ 2 * k ∧
    wr.ownsRow w.heap.size 53 3 (.slice A cl.length c) cl.length (chsC cl) ∧ Txs wr base (cl.map (·.p)) ∧ M1 ≤ M + 2 * k ∧ Tp wr t B M1 ∧ Ch (At t) w wr) (fun _ i _ => ps.length - (intOf i).toNat)
  case atStart => exact ⟨0, [], none, 0, M, Nat.zero_le _, rfl, rfl, Lib.hid (fun c hc => by simp at hc), Nat.zero_le _, World.ownsRow_nil _ _ _ _, Txs.nil, Nat.le_refl _, hT, Ch.refl _ _⟩
  case round =>
    clear hT
    obtain ⟨k, cl, A, c, M1, hk, rfl, rfl, HSt, hcl, hown, hTx, hM1, hT, hch⟩ := hrel
    by_cases hlt : k < ps.length
    · have hws := hch.size
      obtain ⟨ad, hadd, hbl, hc⟩ := part_at (own_row (HOw.out wr hch)) hlt
      subst hadd
      have hTy := HTx.out wr hch _ (List.getElem_mem hlt)
      obtain ⟨hy1, hy9, hyb⟩ := HS.out _ (List.getElem_mem hlt)
      have hyc := HCp.out _ (List.getElem_mem hlt)
      have HI := Lib.hid (idOf_wf (zs := ps[k].zs) (by omega))
      have HPc := Lib.hid (fun W h => part_at (own_row (HOw.out W h)) hlt)
      have hpe : ps[k] = ⟨ps[k].A, ps[k].cap, ps[k].zs⟩ := rfl
      rw [hpe] at hTy
      clear hpe
      generalize ps[k].zs = ys at *
      generalize ps[k].A = pA at *
      generalize ps[k].cap = pc at *
      have hrow := hTy.row
      have HOB := Lib.hid (fun g (hg : (Value.slice A cl.length c).ownBlock = some g) => Nat.lt_of_lt_of_le (hown.lt g hg).2 (Nat.le_refl _))
      go_wp2_with fail
      refine wp_region_g 11 (by kernel_rfl) ?_
      refine AllC.head 0 10 (fuel := 2) (by first | exact fun h k => Grew.trans h k | exact fun h k => cls_grew h k) (grew_drew _) (by rfl) (by kernel_rfl) ?_
      simp only [List.take_succ_cons, List.take_zero, List.drop_succ_cons, List.drop_zero]
      repeat (first
        | (refine HeadC.val (by rfl) ?_
           apply Exists.intro
           refine ⟨fun w' hw' => ?_, ?_⟩
           · (have hf_0 := cell_up hw' hc; (go_simp) <;> (try go_ints) <;> with_reducible rfl)
           try simp only [Act.put, List.setIfInBounds_toArray, List.set_cons_zero, List.set_cons_succ])
        | (refine HeadC.call (by rfl) ?_
           apply Exists.intro; apply Exists.intro
           refine ⟨fun w' hw' => ?_, ?_⟩
           · (have hf_0 := cell_up hw' hc; (go_simp) <;> first | (refine ⟨?_, ?_⟩ <;> with_reducible rfl) | with_reducible rfl)
           apply Exists.intro
           refine ⟨fun w' hw' => ?_, ?_⟩
           · (first | exact refOf_any pA pc wr.heap.size ys w' (hrow.up hw' (Nat.le_refl _)) hw'.size hyb (by omega))
           try simp only [Act.put, List.setIfInBounds_toArray, List.set_cons_zero, List.set_cons_succ])
        | (refine HeadC.shut (by rfl) ?_
           try simp only [Act.put, List.setIfInBounds_toArray, List.set_cons_zero, List.set_cons_succ]))
      refine HeadC.nil ?_
      refine AllC.one 10 (by kernel_rfl) rfl ?_
      intro wg hg K hK
      go_simp
      have hgr := ((grew_drew wr).trans hg).trans (grew_alloc wg (.cells #[.int .u64 0, .int .i64 0, .slice none 0 0] 53))
      have hB := Blk.new wg 53 #[.int .u64 0, .int .i64 0, .slice none 0 0]
      have hgk : wr.heap.size ≤ wg.heap.size := ((grew_drew wr).trans hg).size
      refine hK.out _ _ hgr ?_
      clear hK K hg
      try simp only [Act.put, List.setIfInBounds_toArray, List.set_cons_zero, List.set_cons_succ]
      generalize wg.alloc (.cells #[.int .u64 0, .int .i64 0, .slice none 0 0] 53) = wa at *
      generalize wg.heap.size = gk at *
      clear wg
      refine AllC.tail 11 (by rfl) (by kernel_rfl) ?_
      intro wt hwt
      simp only [List.drop_succ_cons, List.drop_zero]
      replace hB := hB.of hwt
      replace hgr := hgr.trans hwt
      have htr := hT.lt
      have hne : ¬ gk = t := by omega
      have a0 := (hB.cell 0).trans (show _ = some (.int .u64 0) from rfl)
      have a1 := (hB.cell 1).trans (show _ = some (.int .i64 0) from rfl)
      have a2 := (hB.cell 2).trans (show _ = some (.slice none 0 0) from rfl)
      have f0 := hB.frozen 0
      have f1 := hB.frozen 1
      have f2 := hB.frozen 2
      have hbg := hB.lt
      clear hwt hc
      go_upto_region 6 with (fail)
      have hk3 : Ch (At gk) wt (((wt.setCell ⟨gk, 0, none⟩ (.int .u64 (sumZ ys))).setCell ⟨gk, 1, none⟩ (.int .i64 ys.length)).setCell ⟨gk, 2, none⟩ (.slice pA ys.length pc)) := (((Ch.refl (At gk) wt).set_at 0 _).set_at 1 _).set_at 2 _
      have hB3 : Blk (((wt.setCell ⟨gk, 0, none⟩ (.int .u64 (sumZ ys))).setCell ⟨gk, 1, none⟩ (.int .i64 ys.length)).setCell ⟨gk, 2, none⟩ (.slice pA ys.length pc)) gk 53 #[.int .u64 (sumZ ys), .int .i64 ys.length, .slice pA ys.length pc] := ((hB.set_ 0 (.int .u64 (sumZ ys))).set_ 1 (.int .i64 ys.length)).set_ 2 (.slice pA ys.length pc)
      have hwr3 : Ch (At t) wr (((wt.setCell ⟨gk, 0, none⟩ (.int .u64 (sumZ ys))).setCell ⟨gk, 1, none⟩ (.int .i64 ys.length)).setCell ⟨gk, 2, none⟩ (.slice pA ys.length pc)) := (Ch.of_below hgr).nextNew hk3 (fun i hi => .inl (by have h' : i = gk := hi; omega))
      have hgg : Grew wr (((wt.setCell ⟨gk, 0, none⟩ (.int .u64 (sumZ ys))).setCell ⟨gk, 1, none⟩ (.int .i64 ys.length)).setCell ⟨gk, 2, none⟩ (.slice pA ys.length pc)) := Below.trans (B := wr.heap.size) hgr (hk3.below hgr.size (fun i hi => by have h' : i = gk := hi; omega))
      clear a0 a1 a2 f0 f1 f2 hB hk3 hgr hbg
      generalize ((wt.setCell ⟨gk, 0, none⟩ (.int .u64 (sumZ ys))).setCell ⟨gk, 1, none⟩ (.int .i64 ys.length)).setCell ⟨gk, 2, none⟩ (.slice pA ys.length pc) = wb at *
      clear wt
      have hB := hB3
      clear hB3
      replace hown := own_below hown hgg
      replace hTx := hTx.of hgg
      replace hTy := hTy.of hgg
      replace hT := hT.of hgg
      replace hch := hch.trans hwr3
      clear hgg hwr3 hrow
      go_wp2_with fail
      refine (tapeNext_any _ _ _ _ _ hT (by omega) (by omega)).mono ?_
      rintro e wx ⟨x, rfl, hx, hT2, hch2⟩
      replace hown := own_ch hown hch2 (fun g hg hs => by have := own_lt hown g hg; have h' : g = t := hs; omega)
      replace hTx := hTx.ch hch2 (tape_noBytes' hT)
      replace hTy := hTy.ch hch2 (tape_noBytes' hT)
      replace hB := hB.ch hch2 hne
      replace hch := hch.trans hch2
      replace hT := hT2
      clear hT2 hch2
      have hwx := hch.size
      have b0 := (hB.cell 0).trans (show _ = some (.int .u64 (sumZ ys)) from rfl)
      have b1 := (hB.cell 1).trans (show _ = some (.int .i64 ys.length) from rfl)
      have b2 := (hB.cell 2).trans (show _ = some (.slice pA ys.length pc) from rfl)
      by_cases x0 : x = 0
      · subst x0
        clear hx
        go_wp2_with fail
        go_roundw
        case rel => exact ⟨k + 1, cl, A, c, _, by omega, by go_num, rfl, HSt, by omega, hown, hTx, by omega, hT, hch⟩
        case measure => simp [intOf]; omega
      by_cases x1 : x = 1
      · subst x1
        clear hx x0
        have hrw : Row wx wx.heap.size pA (ys.map (.int .u8)) := hTy.row
        obtain ⟨adp, hadp, _, _⟩ := hrw.at_ (k := 0) (by rw [List.length_map]; omega)
        subst hadp
        have hcut := hrw.cut' (lo := 1) (m := ys.length - 1) (cap := pc) (by omega)
        rw [← List.map_drop, ← List.map_take] at hcut
        have hll : ((ys.drop 1).take (ys.length - 1)).length = ys.length - 1 := by rw [List.length_take, List.length_drop]; omega
        have hzb : Byt ((ys.drop 1).take (ys.length - 1)) := fun z hz => hyb z (List.mem_of_mem_drop (List.mem_of_mem_take hz))
        have HZB := Lib.hid hzb
        have hrl : (((ys.drop 1).take (ys.length - 1)).map (Value.int .u8)).length = (ys.length - 1) * 1 := by rw [List.length_map, hll, Nat.mul_one]
        have HLL := Lib.hid hll
        have y1 : (1 : Int) ≤ ys.length := by omega
        have y2 : (ys.length : Int) ≤ pc := by omega
        clear hll hzb hrw hTy
        obtain ⟨ad', he', _, hc⟩ := HPc.out wx hch
        obtain rfl := Option.some.inj he'
        generalize (ys.drop 1).take (ys.length - 1) = zs at *
        by_cases hp1 : pc = 1
        · rw [if_pos hp1] at hcut
          have hol := own_lit wx wx.heap.size 5 #[.int .u8 9] (Nat.le_refl _) (by unfold maxLen; simp)
          have hga := grew_alloc wx (.cells #[.int .u8 9] 5)
          replace hc := cell_up hga hc
          go_upto_region 12 with (at_builtin; refine wpList_append_row rfl (.tmp 30) (.tmp 35) rfl wx.heap.size elem_u8 (by rfl) hol wx.heap.size (by rfl) hrl (hcut.up hga (Nat.le_refl _)) (ones_u8 _) (by unfold maxLen; simp; omega) (by simp; omega) (by simp) ?_; intro A8 c8 w8 hown8 hg8 _; have hB8 := (hB.of hga).ch (Ch.of_own hg8) (own_blk_ne hol (hB.of hga) (by decide)); have e0 := (hB8.cell 0).trans (show _ = some (.int .u64 (sumZ ys)) from rfl); have e2 := (hB8.cell 2).trans (show _ = some (.slice (some adp) ys.length pc) from rfl); have f2 := hB8.frozen 2; have hl8 := hB8.lt)
          have hgw8 : Grew wx w8 := Below.trans (B := wx.heap.size) hga ((Ch.of_own hg8).below hga.size (fun i hi => own_lt hol i hi))
          have hlen8 : (#[Value.int IntKind.u8 9].size + (ys.length - 1)) = ys.length := by simp; omega
          rw [hlen8] at hown8
          have hk9 : Ch (At gk) w8 (w8.setCell ⟨gk, 2, none⟩ (.slice A8 ys.length c8)) := (Ch.refl (At gk) w8).set_at 2 _
          have hc8 := (own_cap hown8).1
          have hTy : Tx w8 base ⟨A8, c8, 9 :: zs⟩ := (Tx.own (zs := 9 :: zs) hown8).mono (Nat.le_trans hbs hwx)
          replace hTy := hTy.ch hk9 (blk_noBytes hB8 (by decide))
          replace hTx := (hTx.of hgw8).ch hk9 (blk_noBytes hB8 (by decide))
          have hTB := hT.le
          replace hT := (hT.of hgw8).ch hk9 (show ¬ t = gk by omega) (fun i hi => by have h' : i = gk := hi; omega)
          replace hown := own_ch (own_below hown hgw8) hk9 (fun g hg hs => by have := HOB.out g hg; have h' : g = gk := hs; omega)
          replace hch : Ch (At t) w (w8.setCell ⟨gk, 2, none⟩ (.slice A8 ys.length c8)) := (hch.next hgw8).nextNew hk9 (fun i hi => .inl (by have h' : i = gk := hi; omega))
          have hB9 : Blk (w8.setCell ⟨gk, 2, none⟩ (.slice A8 ys.length c8)) gk 53 #[.int .u64 (sumZ ys), .int .i64 ys.length, .slice A8 ys.length c8] := hB8.set_ 2 _
          obtain ⟨ql, hql⟩ : ∃ ql, ql = ys.length := ⟨_, rfl⟩
          have hB' : Blk (w8.setCell ⟨gk, 2, none⟩ (.slice A8 ys.length c8)) gk 53 #[.int .u64 (sumZ ys), .int .i64 ys.length, .slice A8 ql c8] := by rw [hql]; exact hB9
          have HQ : Hid ((9 :: zs).length = ql ∧ Byt (9 :: zs) ∧ (9 :: zs).length ≤ c8 ∧ (9 :: zs).length ≤ 10) := Lib.hid (by
            have e := HLL.out
            refine ⟨by rw [List.length_cons, e]; omega, fun z hz => ?_, by rw [List.length_cons, e]; omega, by rw [List.length_cons, e]; omega⟩
            rcases List.mem_cons.1 hz with rfl | h
            · omega
            · exact HZB.out z h)
          generalize w8.setCell ⟨gk, 2, none⟩ (.slice A8 ys.length c8) = wv at *
          clear hol hga hgw8 hlen8 hown8 hg8 hk9 hc8 hB8 e0 e2 f2 hl8 hB hB9 hql b0 b1 b2 hc hcut hrl HZB HLL y1 y2
          have hB := hB'
          clear hB'
          obtain ⟨qA, hqA⟩ : ∃ qA, qA = A8 := ⟨_, rfl⟩
          subst hqA
          obtain ⟨qc, hqc⟩ : ∃ qc, qc = c8 := ⟨_, rfl⟩
          subst hqc
          generalize 9 :: zs = qs at *
          obtain ⟨nl, hnl⟩ : ∃ nl, nl = cl.length := ⟨_, rfl⟩
          have HNL := Lib.hid hnl
          rw [← hnl] at hown hcl ⊢
          clear hnl
          go_wp2_with fail
          refine (tapeNext_any _ _ _ _ _ hT (by omega) (by omega)).mono ?_
          rintro e wy ⟨x2, rfl, hx2, hT2, hch2⟩
          replace hown := own_ch hown hch2 (fun g hg hs => by have := own_lt hown g hg; have h' : g = t := hs; omega)
          replace hTx := hTx.ch hch2 (tape_noBytes' hT)
          replace hTy := hTy.ch hch2 (tape_noBytes' hT)
          replace hB := hB.ch hch2 (show ¬ gk = t by omega)
          replace hch := hch.trans hch2
          replace hT := hT2
          clear hT2 hch2
          have b0 := (hB.cell 0).trans (show _ = some (.int .u64 (sumZ ys)) from rfl)
          have b1 := (hB.cell 1).trans (show _ = some (.int .i64 ys.length) from rfl)
          have b2 := (hB.cell 2).trans (show _ = some (.slice qA ql qc) from rfl)
          have hx2' : x2 = 0 ∨ x2 = 1 := by omega
          have hwy := hch.size
          have hga := grew_alloc wy (.cells #[.int .u64 (sumZ ys), .int .i64 ys.length, .slice qA ql qc] 53)
          have HSo := Lib.hid (stock_one (x := idOf ys) (A := qA) (HI.out) HQ.out)
          rcases hx2' with rfl | rfl
          · clear hx2
            have hol := own_litN wy w.heap.size 53 3 1 #[.int .u64 (sumZ ys), .int .i64 ys.length, .slice qA ql qc] hwy rfl (by unfold maxLen; omega)
            have hrc := own_row (own_below hown hga)
            go_wp2_with (at_builtin; refine wpList_append_row rfl (.tmp 48) (.tmp 49) rfl w.heap.size elem_chunk (by rfl) hol _ (by rfl) (by rw [chsC_len, HNL.out]) hrc (ones_chs _) (by unfold maxLen; omega) (by omega) (by simp; omega) ?_; intro A9 c9 w9 hown9 hg9 _; have hch9 : Ch (At t) w w9 := (hch.next hga).nextNew (Ch.of_own hg9) (fun i hi => .inl (own_lt hol i hi)); have hTx9 := (hTx.of hga).ch (Ch.of_own hg9) (own_noBytes hol (by decide)); have hTy9 := (hTy.of hga).ch (Ch.of_own hg9) (own_noBytes hol (by decide)); have hT9 := tape_own (hT.of hga) hol hg9 (by decide) hBw)
            go_roundw
            case rel =>
              refine ⟨k + 1, ⟨idOf ys, ⟨qA, qc, qs⟩⟩ :: cl, A9, c9, M1 + 2, by omega, by go_num, by rw [List.length_cons, ← HNL.out, Nat.add_comm], Lib.hid (fun c hc => (List.mem_cons.1 hc).elim (fun e => e ▸ HSo.out) (HSt.out c)), by rw [List.length_cons, ← HNL.out]; omega, ?_, fun p hp => ?_, by omega, hT9, hch9⟩
              · rw [List.length_cons, ← HNL.out, Nat.add_comm nl 1]
                have e : chC ⟨idOf ys, ⟨qA, qc, qs⟩⟩ = #[.int .u64 (sumZ ys), .int .i64 ys.length, .slice qA ql qc].toList := by rw [← HQ.out.1]; rfl
                show w9.ownsRow _ _ _ _ _ (chC ⟨idOf ys, ⟨qA, qc, qs⟩⟩ ++ chsC cl)
                rw [e]; exact hown9
              · rw [List.map_cons] at hp
                exact (List.mem_cons.1 hp).elim (fun e => e ▸ hTy9) (hTx9 p)
            case measure => simp [intOf]; omega
          · clear hx2
            go_wp2_with (at_builtin; refine wpList_append_row rfl (.tmp 51) (.tmp 53) rfl w.heap.size elem_chunk (by rfl) (hown.alloc _) _ (by rfl) (by rfl) (Blk.row (Blk.new wy 53 #[.int .u64 (sumZ ys), .int .i64 ys.length, .slice qA ql qc])) (by simp [Value.oneCell']) (by unfold maxLen; omega) (by omega) (by simp; omega) ?_; intro A9 c9 w9 hown9 hg9 _; have hch9 : Ch (At t) w w9 := (hch.next hga).nextNew (Ch.of_own hg9) (fun i hi => .inl (own_lt hown i hi)); have hTx9 := (hTx.of hga).ch (Ch.of_own hg9) (own_noBytes (hown.alloc _) (by decide)); have hTy9 := (hTy.of hga).ch (Ch.of_own hg9) (own_noBytes (hown.alloc _) (by decide)); have hT9 := tape_own (hT.of hga) (hown.alloc (.cells #[.int .u64 (sumZ ys), .int .i64 ys.length, .slice qA ql qc] 53)) hg9 (by decide) hBw)
            go_roundw
            case rel =>
              refine ⟨k + 1, cl ++ [⟨idOf ys, ⟨qA, qc, qs⟩⟩], A9, c9, M1 + 2, by omega, by go_num, by rw [List.length_append, ← HNL.out]; rfl, Lib.hid (fun c hc => (List.mem_append.1 hc).elim (HSt.out c) (fun e => by rw [List.mem_singleton] at e; exact e ▸ HSo.out)), by rw [List.length_append, ← HNL.out, List.length_singleton]; omega, ?_, fun p hp => ?_, by omega, hT9, hch9⟩
              · rw [List.length_append, ← HNL.out, List.length_singleton, chsC_append]
                have e : chsC [⟨idOf ys, ⟨qA, qc, qs⟩⟩] = #[.int .u64 (sumZ ys), .int .i64 ys.length, .slice qA ql qc].toList := by rw [← HQ.out.1]; rfl
                rw [e]; exact hown9
              · rw [List.map_append] at hp
                exact (List.mem_append.1 hp).elim (hTx9 p) (fun e => by rw [List.map_singleton, List.mem_singleton] at e; exact e ▸ hTy9)
            case measure => simp [intOf]; omega
        · rw [if_neg hp1] at hcut
          have hol := own_lit wx wx.heap.size 5 #[.int .u8 9] (Nat.le_refl _) (by unfold maxLen; simp)
          have hga := grew_alloc wx (.cells #[.int .u8 9] 5)
          replace hc := cell_up hga hc
          go_upto_region 12 with (at_builtin; refine wpList_append_row rfl (.tmp 30) (.tmp 35) rfl wx.heap.size elem_u8 (by rfl) hol wx.heap.size (by rfl) hrl (hcut.up hga (Nat.le_refl _)) (ones_u8 _) (by unfold maxLen; simp; omega) (by simp; omega) (by simp) ?_; intro A8 c8 w8 hown8 hg8 _; have hB8 := (hB.of hga).ch (Ch.of_own hg8) (own_blk_ne hol (hB.of hga) (by decide)); have e0 := (hB8.cell 0).trans (show _ = some (.int .u64 (sumZ ys)) from rfl); have e2 := (hB8.cell 2).trans (show _ = some (.slice (some adp) ys.length pc) from rfl); have f2 := hB8.frozen 2; have hl8 := hB8.lt)
          have hgw8 : Grew wx w8 := Below.trans (B := wx.heap.size) hga ((Ch.of_own hg8).below hga.size (fun i hi => own_lt hol i hi))
          have hlen8 : (#[Value.int IntKind.u8 9].size + (ys.length - 1)) = ys.length := by simp; omega
          rw [hlen8] at hown8
          have hk9 : Ch (At gk) w8 (w8.setCell ⟨gk, 2, none⟩ (.slice A8 ys.length c8)) := (Ch.refl (At gk) w8).set_at 2 _
          have hc8 := (own_cap hown8).1
          have hTy : Tx w8 base ⟨A8, c8, 9 :: zs⟩ := (Tx.own (zs := 9 :: zs) hown8).mono (Nat.le_trans hbs hwx)
          replace hTy := hTy.ch hk9 (blk_noBytes hB8 (by decide))
          replace hTx := (hTx.of hgw8).ch hk9 (blk_noBytes hB8 (by decide))
          have hTB := hT.le
          replace hT := (hT.of hgw8).ch hk9 (show ¬ t = gk by omega) (fun i hi => by have h' : i = gk := hi; omega)
          replace hown := own_ch (own_below hown hgw8) hk9 (fun g hg hs => by have := HOB.out g hg; have h' : g = gk := hs; omega)
          replace hch : Ch (At t) w (w8.setCell ⟨gk, 2, none⟩ (.slice A8 ys.length c8)) := (hch.next hgw8).nextNew hk9 (fun i hi => .inl (by have h' : i = gk := hi; omega))
          have hB9 : Blk (w8.setCell ⟨gk, 2, none⟩ (.slice A8 ys.length c8)) gk 53 #[.int .u64 (sumZ ys), .int .i64 ys.length, .slice A8 ys.length c8] := hB8.set_ 2 _
          obtain ⟨ql, hql⟩ : ∃ ql, ql = ys.length := ⟨_, rfl⟩
          have hB' : Blk (w8.setCell ⟨gk, 2, none⟩ (.slice A8 ys.length c8)) gk 53 #[.int .u64 (sumZ ys), .int .i64 ys.length, .slice A8 ql c8] := by rw [hql]; exact hB9
          have HQ : Hid ((9 :: zs).length = ql ∧ Byt (9 :: zs) ∧ (9 :: zs).length ≤ c8 ∧ (9 :: zs).length ≤ 10) := Lib.hid (by
            have e := HLL.out
            refine ⟨by rw [List.length_cons, e]; omega, fun z hz => ?_, by rw [List.length_cons, e]; omega, by rw [List.length_cons, e]; omega⟩
            rcases List.mem_cons.1 hz with rfl | h
            · omega
            · exact HZB.out z h)
          generalize w8.setCell ⟨gk, 2, none⟩ (.slice A8 ys.length c8) = wv at *
          clear hol hga hgw8 hlen8 hown8 hg8 hk9 hc8 hB8 e0 e2 f2 hl8 hB hB9 hql b0 b1 b2 hc hcut hrl HZB HLL y1 y2
          have hB := hB'
          clear hB'
          obtain ⟨qA, hqA⟩ : ∃ qA, qA = A8 := ⟨_, rfl⟩
          subst hqA
          obtain ⟨qc, hqc⟩ : ∃ qc, qc = c8 := ⟨_, rfl⟩
          subst hqc
          generalize 9 :: zs = qs at *
          obtain ⟨nl, hnl⟩ : ∃ nl, nl = cl.length := ⟨_, rfl⟩
          have HNL := Lib.hid hnl
          rw [← hnl] at hown hcl ⊢
          clear hnl
          go_wp2_with fail
          refine (tapeNext_any _ _ _ _ _ hT (by omega) (by omega)).mono ?_
          rintro e wy ⟨x2, rfl, hx2, hT2, hch2⟩
          replace hown := own_ch hown hch2 (fun g hg hs => by have := own_lt hown g hg; have h' : g = t := hs; omega)
          replace hTx := hTx.ch hch2 (tape_noBytes' hT)
          replace hTy := hTy.ch hch2 (tape_noBytes' hT)
          replace hB := hB.ch hch2 (show ¬ gk = t by omega)
          replace hch := hch.trans hch2
          replace hT := hT2
          clear hT2 hch2
          have b0 := (hB.cell 0).trans (show _ = some (.int .u64 (sumZ ys)) from rfl)
          have b1 := (hB.cell 1).trans (show _ = some (.int .i64 ys.length) from rfl)
          have b2 := (hB.cell 2).trans (show _ = some (.slice qA ql qc) from rfl)
          have hx2' : x2 = 0 ∨ x2 = 1 := by omega
          have hwy := hch.size
          have hga := grew_alloc wy (.cells #[.int .u64 (sumZ ys), .int .i64 ys.length, .slice qA ql qc] 53)
          have HSo := Lib.hid (stock_one (x := idOf ys) (A := qA) (HI.out) HQ.out)
          rcases hx2' with rfl | rfl
          · clear hx2
            have hol := own_litN wy w.heap.size 53 3 1 #[.int .u64 (sumZ ys), .int .i64 ys.length, .slice qA ql qc] hwy rfl (by unfold maxLen; omega)
            have hrc := own_row (own_below hown hga)
            go_wp2_with (at_builtin; refine wpList_append_row rfl (.tmp 48) (.tmp 49) rfl w.heap.size elem_chunk (by rfl) hol _ (by rfl) (by rw [chsC_len, HNL.out]) hrc (ones_chs _) (by unfold maxLen; omega) (by omega) (by simp; omega) ?_; intro A9 c9 w9 hown9 hg9 _; have hch9 : Ch (At t) w w9 := (hch.next hga).nextNew (Ch.of_own hg9) (fun i hi => .inl (own_lt hol i hi)); have hTx9 := (hTx.of hga).ch (Ch.of_own hg9) (own_noBytes hol (by decide)); have hTy9 := (hTy.of hga).ch (Ch.of_own hg9) (own_noBytes hol (by decide)); have hT9 := tape_own (hT.of hga) hol hg9 (by decide) hBw)
            go_roundw
            case rel =>
              refine ⟨k + 1, ⟨idOf ys, ⟨qA, qc, qs⟩⟩ :: cl, A9, c9, M1 + 2, by omega, by go_num, by rw [List.length_cons, ← HNL.out, Nat.add_comm], Lib.hid (fun c hc => (List.mem_cons.1 hc).elim (fun e => e ▸ HSo.out) (HSt.out c)), by rw [List.length_cons, ← HNL.out]; omega, ?_, fun p hp => ?_, by omega, hT9, hch9⟩
              · rw [List.length_cons, ← HNL.out, Nat.add_comm nl 1]
                have e : chC ⟨idOf ys, ⟨qA, qc, qs⟩⟩ = #[.int .u64 (sumZ ys), .int .i64 ys.length, .slice qA ql qc].toList := by rw [← HQ.out.1]; rfl
                show w9.ownsRow _ _ _ _ _ (chC ⟨idOf ys, ⟨qA, qc, qs⟩⟩ ++ chsC cl)
                rw [e]; exact hown9
              · rw [List.map_cons] at hp
                exact (List.mem_cons.1 hp).elim (fun e => e ▸ hTy9) (hTx9 p)
            case measure => simp [intOf]; omega
          · clear hx2
            go_wp2_with (at_builtin; refine wpList_append_row rfl (.tmp 51) (.tmp 53) rfl w.heap.size elem_chunk (by rfl) (hown.alloc _) _ (by rfl) (by rfl) (Blk.row (Blk.new wy 53 #[.int .u64 (sumZ ys), .int .i64 ys.length, .slice qA ql qc])) (by simp [Value.oneCell']) (by unfold maxLen; omega) (by omega) (by simp; omega) ?_; intro A9 c9 w9 hown9 hg9 _; have hch9 : Ch (At t) w w9 := (hch.next hga).nextNew (Ch.of_own hg9) (fun i hi => .inl (own_lt hown i hi)); have hTx9 := (hTx.of hga).ch (Ch.of_own hg9) (own_noBytes (hown.alloc _) (by decide)); have hTy9 := (hTy.of hga).ch (Ch.of_own hg9) (own_noBytes (hown.alloc _) (by decide)); have hT9 := tape_own (hT.of hga) (hown.alloc (.cells #[.int .u64 (sumZ ys), .int .i64 ys.length, .slice qA ql qc] 53)) hg9 (by decide) hBw)
            go_roundw
            case rel =>
              refine ⟨k + 1, cl ++ [⟨idOf ys, ⟨qA, qc, qs⟩⟩], A9, c9, M1 + 2, by omega, by go_num, by rw [List.length_append, ← HNL.out]; rfl, Lib.hid (fun c hc => (List.mem_append.1 hc).elim (HSt.out c) (fun e => by rw [List.mem_singleton] at e; exact e ▸ HSo.out)), by rw [List.length_append, ← HNL.out, List.length_singleton]; omega, ?_, fun p hp => ?_, by omega, hT9, hch9⟩
              · rw [List.length_append, ← HNL.out, List.length_singleton, chsC_append]
                have e : chsC [⟨idOf ys, ⟨qA, qc, qs⟩⟩] = #[.int .u64 (sumZ ys), .int .i64 ys.length, .slice qA ql qc].toList := by rw [← HQ.out.1]; rfl
                rw [e]; exact hown9
              · rw [List.map_append] at hp
                exact (List.mem_append.1 hp).elim (hTx9 p) (fun e => by rw [List.map_singleton, List.mem_singleton] at e; exact e ▸ hTy9)
            case measure => simp [intOf]; omega
      by_cases x2 : x = 2
      · subst x2
        clear hx x0 x1
        have hog : ∀ g, (Value.slice A cl.length c).ownBlock = some g → g ≠ gk := fun g hg => by have := HOB.out g hg; omega
        go_upto_region 12 with (at_builtin; refine wpList_append_row rfl (.tmp 40) (.tmp 42) rfl w.heap.size elem_chunk (by rfl) (hown.alloc _) _ (by rfl) (by rfl) (Blk.row (Blk.new wx 53 #[.int .u64 (sumZ ys), .int .i64 ys.length, .slice pA ys.length pc])) (by simp [Value.oneCell']) (by unfold maxLen; omega) (by omega) (by simp; omega) ?_; intro A8 c8 w8 hown8 hg8 _)
        have hga := grew_alloc wx (.cells #[.int .u64 (sumZ ys), .int .i64 ys.length, .slice pA ys.length pc] 53)
        have HSt2 : Hid (StockOk (cl ++ [⟨idOf ys, ⟨pA, pc, ys⟩⟩])) := Lib.hid (fun c hc => (List.mem_append.1 hc).elim (HSt.out c) (fun e => by rw [List.mem_singleton] at e; subst e; exact ⟨HI.out, hyb, hyc, by simp only; omega⟩))
        have hTx8 := (hTx.of hga).ch (Ch.of_own hg8) (own_noBytes (hown.alloc _) (by decide))
        replace hTy := (hTy.of hga).ch (Ch.of_own hg8) (own_noBytes (hown.alloc _) (by decide))
        replace hT := tape_own (hT.of hga) (hown.alloc (.cells #[.int .u64 (sumZ ys), .int .i64 ys.length, .slice pA ys.length pc] 53)) hg8 (by decide) hBw
        replace hB := (hB.of hga).ch (Ch.of_own hg8) (fun h => hog gk h rfl)
        replace hch : Ch (At t) w w8 := (hch.next hga).nextNew (Ch.of_own hg8) (fun i hi => .inl (own_lt hown i hi))
        have hTx2 : Txs w8 base ((cl ++ [(⟨idOf ys, ⟨pA, pc, ys⟩⟩ : ChZ)]).map (·.p)) := fun p hp => by
          rw [List.map_append] at hp
          exact (List.mem_append.1 hp).elim (hTx8 p) (fun e => by rw [List.map_singleton, List.mem_singleton] at e; exact e ▸ hTy)
        have hown2 : w8.ownsRow w.heap.size 53 3 (.slice A8 (cl.length + 1) c8) (cl.length + 1) (chsC (cl ++ [⟨idOf ys, ⟨pA, pc, ys⟩⟩])) := by rw [chsC_append]; exact hown8
        have hlen2 : (cl ++ [(⟨idOf ys, ⟨pA, pc, ys⟩⟩ : ChZ)]).length = cl.length + 1 := by rw [List.length_append, List.length_singleton]
        clear hown hown8 hg8 hga hTx hTx8 HSt b0 b1 b2
        generalize cl ++ [(⟨idOf ys, ⟨pA, pc, ys⟩⟩ : ChZ)] = cl2 at *
        have hown := hown2
        have hTx := hTx2
        have HSt := HSt2
        clear hown2 hTx2 HSt2
        obtain ⟨nl, hnl⟩ : ∃ nl, nl = cl.length + 1 := ⟨_, rfl⟩
        have HNL : Hid (nl = cl2.length) := Lib.hid (by rw [hlen2]; exact hnl)
        have hnk : nl ≤ 2 * k + 1 := by omega
        rw [← hnl] at hown ⊢
        clear hnl hlen2
        obtain ⟨ql, hql⟩ : ∃ ql, ql = ys.length := ⟨_, rfl⟩
        have HQ : Hid (ys.length = ql ∧ Byt ys ∧ ys.length ≤ pc ∧ ys.length ≤ 10) := Lib.hid ⟨hql.symm, hyb, hyc, by omega⟩
        have hB' : Blk w8 gk 53 #[.int .u64 (sumZ ys), .int .i64 ys.length, .slice pA ql pc] := by rw [hql]; exact hB
        clear hB hql
        have hB := hB'
        clear hB'
        obtain ⟨qs, hqs⟩ : ∃ qs, qs = ys := ⟨_, rfl⟩
        rw [← hqs] at HQ hTy
        clear hqs
        obtain ⟨qA, hqA⟩ : ∃ qA, qA = pA := ⟨_, rfl⟩
        obtain ⟨qc, hqc⟩ : ∃ qc, qc = pc := ⟨_, rfl⟩
        rw [← hqA, ← hqc] at hTy hB
        rw [← hqc] at HQ
        clear hqA hqc
        go_wp2_with fail
        refine (tapeNext_any _ _ _ _ _ hT (by omega) (by omega)).mono ?_
        rintro e wy ⟨x2, rfl, hx2, hT2, hch2⟩
        replace hown := own_ch hown hch2 (fun g hg hs => by have := own_lt hown g hg; have h' : g = t := hs; omega)
        replace hTx := hTx.ch hch2 (tape_noBytes' hT)
        replace hTy := hTy.ch hch2 (tape_noBytes' hT)
        replace hB := hB.ch hch2 (show ¬ gk = t by omega)
        replace hch := hch.trans hch2
        replace hT := hT2
        clear hT2 hch2
        have b0 := (hB.cell 0).trans (show _ = some (.int .u64 (sumZ ys)) from rfl)
        have b1 := (hB.cell 1).trans (show _ = some (.int .i64 ys.length) from rfl)
        have b2 := (hB.cell 2).trans (show _ = some (.slice qA ql qc) from rfl)
        have hx2' : x2 = 0 ∨ x2 = 1 := by omega
        have hwy := hch.size
        have hga := grew_alloc wy (.cells #[.int .u64 (sumZ ys), .int .i64 ys.length, .slice qA ql qc] 53)
        have HSo := Lib.hid (stock_one (x := idOf ys) (A := qA) (HI.out) HQ.out)
        rcases hx2' with rfl | rfl
        · clear hx2
          have hol := own_litN wy w.heap.size 53 3 1 #[.int .u64 (sumZ ys), .int .i64 ys.length, .slice qA ql qc] hwy rfl (by unfold maxLen; omega)
          have hrc := own_row (own_below hown hga)
          go_wp2_with (at_builtin; refine wpList_append_row rfl (.tmp 48) (.tmp 49) rfl w.heap.size elem_chunk (by rfl) hol _ (by rfl) (by rw [chsC_len, HNL.out]) hrc (ones_chs _) (by unfold maxLen; omega) (by omega) (by simp; omega) ?_; intro A9 c9 w9 hown9 hg9 _; have hch9 : Ch (At t) w w9 := (hch.next hga).nextNew (Ch.of_own hg9) (fun i hi => .inl (own_lt hol i hi)); have hTx9 := (hTx.of hga).ch (Ch.of_own hg9) (own_noBytes hol (by decide)); have hTy9 := (hTy.of hga).ch (Ch.of_own hg9) (own_noBytes hol (by decide)); have hT9 := tape_own (hT.of hga) hol hg9 (by decide) hBw)
          go_roundw
          case rel =>
            refine ⟨k + 1, ⟨idOf ys, ⟨qA, qc, qs⟩⟩ :: cl2, A9, c9, M1 + 2, by omega, by go_num, by rw [List.length_cons, ← HNL.out, Nat.add_comm], Lib.hid (fun c hc => (List.mem_cons.1 hc).elim (fun e => e ▸ HSo.out) (HSt.out c)), by rw [List.length_cons, ← HNL.out]; omega, ?_, fun p hp => ?_, by omega, hT9, hch9⟩
            · rw [List.length_cons, ← HNL.out, Nat.add_comm nl 1]
              have e : chC ⟨idOf ys, ⟨qA, qc, qs⟩⟩ = #[.int .u64 (sumZ ys), .int .i64 ys.length, .slice qA ql qc].toList := by rw [← HQ.out.1]; rfl
              show w9.ownsRow _ _ _ _ _ (chC ⟨idOf ys, ⟨qA, qc, qs⟩⟩ ++ chsC cl2)
              rw [e]; exact hown9
            · rw [List.map_cons] at hp
              exact (List.mem_cons.1 hp).elim (fun e => e ▸ hTy9) (hTx9 p)
          case measure => simp [intOf]; omega
        · clear hx2
          go_wp2_with (at_builtin; refine wpList_append_row rfl (.tmp 51) (.tmp 53) rfl w.heap.size elem_chunk (by rfl) (hown.alloc _) _ (by rfl) (by rfl) (Blk.row (Blk.new wy 53 #[.int .u64 (sumZ ys), .int .i64 ys.length, .slice qA ql qc])) (by simp [Value.oneCell']) (by unfold maxLen; omega) (by omega) (by simp; omega) ?_; intro A9 c9 w9 hown9 hg9 _; have hch9 : Ch (At t) w w9 := (hch.next hga).nextNew (Ch.of_own hg9) (fun i hi => .inl (own_lt hown i hi)); have hTx9 := (hTx.of hga).ch (Ch.of_own hg9) (own_noBytes (hown.alloc _) (by decide)); have hTy9 := (hTy.of hga).ch (Ch.of_own hg9) (own_noBytes (hown.alloc _) (by decide)); have hT9 := tape_own (hT.of hga) (hown.alloc (.cells #[.int .u64 (sumZ ys), .int .i64 ys.length, .slice qA ql qc] 53)) hg9 (by decide) hBw)
          go_roundw
          case rel =>
            refine ⟨k + 1, cl2 ++ [⟨idOf ys, ⟨qA, qc, qs⟩⟩], A9, c9, M1 + 2, by omega, by go_num, by rw [List.length_append, ← HNL.out]; rfl, Lib.hid (fun c hc => (List.mem_append.1 hc).elim (HSt.out c) (fun e => by rw [List.mem_singleton] at e; exact e ▸ HSo.out)), by rw [List.length_append, ← HNL.out, List.length_singleton]; omega, ?_, fun p hp => ?_, by omega, hT9, hch9⟩
            · rw [List.length_append, ← HNL.out, List.length_singleton, chsC_append]
              have e : chsC [⟨idOf ys, ⟨qA, qc, qs⟩⟩] = #[.int .u64 (sumZ ys), .int .i64 ys.length, .slice qA ql qc].toList := by rw [← HQ.out.1]; rfl
              rw [e]; exact hown9
            · rw [List.map_append] at hp
              exact (List.mem_append.1 hp).elim (hTx9 p) (fun e => by rw [List.map_singleton, List.mem_singleton] at e; exact e ▸ hTy9)
          case measure => simp [intOf]; omega
      · have z0 : ¬ (x : Int) = 0 := by omega
        have z1 : ¬ (x : Int) = 1 := by omega
        have z2 : ¬ (x : Int) = 2 := by omega
        go_upto_region 12 with (fail)
        obtain ⟨nl, hnl⟩ : ∃ nl, nl = cl.length := ⟨_, rfl⟩
        have HNL := Lib.hid hnl
        rw [← hnl] at hown hcl ⊢
        clear hnl
        obtain ⟨ql, hql⟩ : ∃ ql, ql = ys.length := ⟨_, rfl⟩
        have HQ : Hid (ys.length = ql ∧ Byt ys ∧ ys.length ≤ pc ∧ ys.length ≤ 10) := Lib.hid ⟨hql.symm, hyb, hyc, by omega⟩
        have hB' : Blk wx gk 53 #[.int .u64 (sumZ ys), .int .i64 ys.length, .slice pA ql pc] := by rw [hql]; exact hB
        clear hB hql
        have hB := hB'
        clear hB'
        obtain ⟨qs, hqs⟩ : ∃ qs, qs = ys := ⟨_, rfl⟩
        rw [← hqs] at HQ hTy
        clear hqs
        obtain ⟨qA, hqA⟩ : ∃ qA, qA = pA := ⟨_, rfl⟩
        obtain ⟨qc, hqc⟩ : ∃ qc, qc = pc := ⟨_, rfl⟩
        rw [← hqA, ← hqc] at hTy hB
        rw [← hqc] at HQ
        clear hqA hqc
        go_wp2_with fail
        refine (tapeNext_any _ _ _ _ _ hT (by omega) (by omega)).mono ?_
        rintro e wy ⟨x2, rfl, hx2, hT2, hch2⟩
        replace hown := own_ch hown hch2 (fun g hg hs => by have := own_lt hown g hg; have h' : g = t := hs; omega)
        replace hTx := hTx.ch hch2 (tape_noBytes' hT)
        replace hTy := hTy.ch hch2 (tape_noBytes' hT)
        replace hB := hB.ch hch2 (show ¬ gk = t by omega)
        replace hch := hch.trans hch2
        replace hT := hT2
        clear hT2 hch2
        have b0 := (hB.cell 0).trans (show _ = some (.int .u64 (sumZ ys)) from rfl)
        have b1 := (hB.cell 1).trans (show _ = some (.int .i64 ys.length) from rfl)
        have b2 := (hB.cell 2).trans (show _ = some (.slice qA ql qc) from rfl)
        have hx2' : x2 = 0 ∨ x2 = 1 := by omega
        have hwy := hch.size
        have hga := grew_alloc wy (.cells #[.int .u64 (sumZ ys), .int .i64 ys.length, .slice qA ql qc] 53)
        have HSo := Lib.hid (stock_one (x := idOf ys) (A := qA) (HI.out) HQ.out)
        rcases hx2' with rfl | rfl
        · clear hx2
          have hol := own_litN wy w.heap.size 53 3 1 #[.int .u64 (sumZ ys), .int .i64 ys.length, .slice qA ql qc] hwy rfl (by unfold maxLen; omega)
          have hrc := own_row (own_below hown hga)
          go_wp2_with (at_builtin; refine wpList_append_row rfl (.tmp 48) (.tmp 49) rfl w.heap.size elem_chunk (by rfl) hol _ (by rfl) (by rw [chsC_len, HNL.out]) hrc (ones_chs _) (by unfold maxLen; omega) (by omega) (by simp; omega) ?_; intro A9 c9 w9 hown9 hg9 _; have hch9 : Ch (At t) w w9 := (hch.next hga).nextNew (Ch.of_own hg9) (fun i hi => .inl (own_lt hol i hi)); have hTx9 := (hTx.of hga).ch (Ch.of_own hg9) (own_noBytes hol (by decide)); have hTy9 := (hTy.of hga).ch (Ch.of_own hg9) (own_noBytes hol (by decide)); have hT9 := tape_own (hT.of hga) hol hg9 (by decide) hBw)
          go_roundw
          case rel =>
            refine ⟨k + 1, ⟨idOf ys, ⟨qA, qc, qs⟩⟩ :: cl, A9, c9, M1 + 2, by omega, by go_num, by rw [List.length_cons, ← HNL.out, Nat.add_comm], Lib.hid (fun c hc => (List.mem_cons.1 hc).elim (fun e => e ▸ HSo.out) (HSt.out c)), by rw [List.length_cons, ← HNL.out]; omega, ?_, fun p hp => ?_, by omega, hT9, hch9⟩
            · rw [List.length_cons, ← HNL.out, Nat.add_comm nl 1]
              have e : chC ⟨idOf ys, ⟨qA, qc, qs⟩⟩ = #[.int .u64 (sumZ ys), .int .i64 ys.length, .slice qA ql qc].toList := by rw [← HQ.out.1]; rfl
              show w9.ownsRow _ _ _ _ _ (chC ⟨idOf ys, ⟨qA, qc, qs⟩⟩ ++ chsC cl)
              rw [e]; exact hown9
            · rw [List.map_cons] at hp
              exact (List.mem_cons.1 hp).elim (fun e => e ▸ hTy9) (hTx9 p)
          case measure => simp [intOf]; omega
        · clear hx2
          go_wp2_with (at_builtin; refine wpList_append_row rfl (.tmp 51) (.tmp 53) rfl w.heap.size elem_chunk (by rfl) (hown.alloc _) _ (by rfl) (by rfl) (Blk.row (Blk.new wy 53 #[.int .u64 (sumZ ys), .int .i64 ys.length, .slice qA ql qc])) (by simp [Value.oneCell']) (by unfold maxLen; omega) (by omega) (by simp; omega) ?_; intro A9 c9 w9 hown9 hg9 _; have hch9 : Ch (At t) w w9 := (hch.next hga).nextNew (Ch.of_own hg9) (fun i hi => .inl (own_lt hown i hi)); have hTx9 := (hTx.of hga).ch (Ch.of_own hg9) (own_noBytes (hown.alloc _) (by decide)); have hTy9 := (hTy.of hga).ch (Ch.of_own hg9) (own_noBytes (hown.alloc _) (by decide)); have hT9 := tape_own (hT.of hga) (hown.alloc (.cells #[.int .u64 (sumZ ys), .int .i64 ys.length, .slice qA ql qc] 53)) hg9 (by decide) hBw)
          go_roundw
          case rel =>
            refine ⟨k + 1, cl ++ [⟨idOf ys, ⟨qA, qc, qs⟩⟩], A9, c9, M1 + 2, by omega, by go_num, by rw [List.length_append, ← HNL.out]; rfl, Lib.hid (fun c hc => (List.mem_append.1 hc).elim (HSt.out c) (fun e => by rw [List.mem_singleton] at e; exact e ▸ HSo.out)), by rw [List.length_append, ← HNL.out, List.length_singleton]; omega, ?_, fun p hp => ?_, by omega, hT9, hch9⟩
            · rw [List.length_append, ← HNL.out, List.length_singleton, chsC_append]
              have e : chsC [⟨idOf ys, ⟨qA, qc, qs⟩⟩] = #[.int .u64 (sumZ ys), .int .i64 ys.length, .slice qA ql qc].toList := by rw [← HQ.out.1]; rfl
              rw [e]; exact hown9
            · rw [List.map_append] at hp
              exact (List.mem_append.1 hp).elim (hTx9 p) (fun e => by rw [List.map_singleton, List.mem_singleton] at e; exact e ▸ hTy9)
          case measure => simp [intOf]; omega
    · obtain rfl : k = ps.length := by omega
      go_wp2_with fail
      go_ret
      exact ⟨cl, A, c, rfl, HSt.out, hcl, hown, hTx, hT.more hM1, hch⟩

end Go.Proofs.Ytnjhipnfhapngaa
