/-
  stockyardref37.Run: what transfer.Run returns.
-/
import Derived.Test.YtpoiejgoongllaaRefRunA37
namespace Go.Proofs.Ytpoiejgoongllaa
set_option linter.unusedVariables false
set_option linter.unusedSimpArgs false
set_option linter.unnecessarySimpa false
open Go.RowKit
attribute [local go_sem ↓] Go.wp_at_zero Go.wp_at_succ

set_option maxRecDepth 100000 in
set_option maxHeartbeats 8000000 in
theorem refRun37_any (n : Nat) (Ai : Option Addr) (ci : Nat) (ids : List IdZ) (Ah : Option Addr) (ch : Nat) (hs : List ChZ) (As : Option Addr) (sc : Nat) (snd : List ChZ) (rounds : Int) (AF : Option Addr) (fc : Nat) (fl : List Fts) (w : World)
    (hI : RunIn w Ai ids Ah hs As snd AF fl) (hO : RunOk ids hs snd fl) (hn1 : hs.length ≤ 1048576) (hn2 : snd.length ≤ 1048576) :
    Calls Try.prog 43 #[.agg #[.int .i64 n, .slice Ai ids.length ci], .slice Ah hs.length ch, .slice As snd.length sc, .int .i64 rounds, .slice AF fl.length fc] w (RunRes n ids hs snd rounds (fl.map Fts.fs) w) := by
  have HIn := Lib.hid hI
  have HO := Lib.hid hO
  have HN2 := Lib.hid hn2
  clear hI hO
  have g0 := grew_alloc w (.cells #[.int .i64 n, .slice Ai ids.length ci] 33)
  have kM := Blk.new w 33 #[.int .i64 n, .slice Ai ids.length ci]
  have m0 := (kM.cell 0).trans (show _ = some (.int .i64 n) from rfl)
  have m1 := (kM.cell 1).trans (show _ = some (.slice Ai ids.length ci) from rfl)
  have hI1 := HIn.out.up g0
  have HR := Lib.hid (refReceive37_any n Ai ci ids Ah ch hs _ hI1.rids HO.out.nids hI1.rhs (fun c hc => (hI1.rhin c hc).1) (fun c hc => ⟨(HO.out.ohs c hc).2, by have := (hI1.rhin c hc).2.2; omega⟩) (by omega))
  have HG0 := Lib.hid g0
  clear g0 kM hI1
  go_enter Try.func43, Try.ntmps43
  go_wp2_with fail
  refine HR.out.mono ?_
  clear HR m0 m1
  generalize w.alloc (.cells #[.int .i64 n, .slice Ai ids.length ci] 33) = w1 at *
  rintro e w2 ⟨hg2, hif⟩
  have HG2 := Lib.hid (Grew.trans HG0.out hg2)
  by_cases hchk : chkM (n : Int) ids = 0
  case neg =>
    rw [if_neg hchk] at hif
    subst hif
    have HE : Hid (∀ W, Grew w2 W → RunRes n ids hs snd rounds (fl.map Fts.fs) w (.returned (.tuple #[.slice none 0 0, .bool false, .int .i64 0])) W) := Lib.hid (fun W hg => ⟨Grew.trans HG2.out hg, by rw [if_neg hchk]⟩)
    have hne : (chkM (n : Int) ids != 0) = true := by rw [bne_iff_ne]; exact hchk
    clear hchk hg2
    generalize chkM (n : Int) ids = er at *
    have hgz := grew_alloc w2 (.cells #[.int .i64 0, .slice none 0 0, .slice none 0 0, .slice none 0 0, .slice none 0 0] 71)
    have HE2 := Lib.hid (HE.out _ hgz)
    clear hgz HE
    unfold rfZ
    go_wp2_with fail
    refine bodyPost_ret (v := .tuple #[.slice none 0 0, .bool false, .int .i64 0]) ?_ rfl HE2.out
    simp [results, Try.results43, go_sem]
  rw [if_pos hchk] at hif
  obtain ⟨L0, R0, rfl, hI0, hF0, hA0⟩ := hif
  have HChk := Lib.hid hchk
  clear hchk
  have hok0 : RcOk (recvR n ids hs) := recvR_ok HChk.out HO.out.oids (fun c hc => (HO.out.ohs c hc).2)
  have hga := grew_alloc w2 (.cells #[.int .i64 R0.n, .slice L0.ai R0.ids.length L0.ci, .slice L0.ah R0.had.length L0.ch, .slice L0.ag R0.got.length L0.cg, .slice L0.ap R0.pre.length L0.cp] 71)
  have hBx : BxSt w (w2.alloc (.cells #[.int .i64 R0.n, .slice L0.ai R0.ids.length L0.ci, .slice L0.ah R0.had.length L0.ch, .slice L0.ag R0.got.length L0.cg, .slice L0.ap R0.pre.length L0.cp] 71)) w2.heap.size L0 R0 (recvR n ids hs) :=
    ⟨Blk.new _ _ _, hI0.up hga, hF0, hok0, ((hA0 (fun _ => True) (fun _ _ _ => trivial)).bound hI0).mono (fun i hi => ⟨Nat.lt_of_lt_of_le hi.1 hga.size, by have := hi.1; omega⟩), Below.trans (B := w.heap.size) HG2.out (hga.mono HG2.out.size), HG2.out.size⟩
  have HP0 := Lib.hid hBx
  have HG3 := Lib.hid (Grew.trans HG2.out hga)
  clear hBx hga hA0 hF0 hI0 hok0 hg2
  unfold rfV
  go_wp2_with fail
  generalize w2.alloc (.cells #[.int .i64 R0.n, .slice L0.ai R0.ids.length L0.ci, .slice L0.ah R0.had.length L0.ch, .slice L0.ag R0.got.length L0.cg, .slice L0.ap R0.pre.length L0.cp] 71) = w3 at *
  generalize w2.heap.size = gR at *
  obtain ⟨FS, hFS⟩ : ∃ FS, FS = fl.map Fts.fs := ⟨_, rfl⟩
  have HFS := Lib.hid hFS
  obtain ⟨r0, hr0⟩ : ∃ r0, r0 = recvR n ids hs := ⟨_, rfl⟩
  have HR0 := Lib.hid hr0
  rw [← hr0] at HP0
  clear hFS hr0
  go_loopw [15] (fun v W => ∃ (j : Nat) (L : RfL) (R : RfR), v = .int .i64 j ∧ j ≤ 1024 ∧ Hid (∀ i, i < j → (rcvAt snd FS r0 i).miss ≠ [] ∧ (i : Int) < rounds) ∧ Hid (BxSt w W gR L R (rcvAt snd FS r0 j))) (fun v _ => 1024 - (intOf v).toNat)
  case atStart => exact ⟨0, L0, R0, rfl, by omega, Lib.hid (fun i hi => (by omega)), HP0⟩
  case round =>
    clear HP0
    obtain ⟨j, L, R, rfl, hj, HJ, HP⟩ := hrel
    have HBX := Lib.hid HP.out.box
    have HPl : Hid (R.pre.length = (rcvAt snd FS r0 j).miss.length) := Lib.hid (by rw [← HP.out.rel.pre, List.length_map])
    have b0 := (HBX.out.cell 0).trans (show _ = some (.int .i64 R.n) from rfl)
    have b1 := (HBX.out.cell 1).trans (show _ = some (.slice L.ai R.ids.length L.ci) from rfl)
    have b2 := (HBX.out.cell 2).trans (show _ = some (.slice L.ah R.had.length L.ch) from rfl)
    have b3 := (HBX.out.cell 3).trans (show _ = some (.slice L.ag R.got.length L.cg) from rfl)
    have b4 := (HBX.out.cell 4).trans (show _ = some (.slice L.ap R.pre.length L.cp) from rfl)
    by_cases hgo : (j : Int) < rounds ∧ j < 1024 ∧ 0 < R.pre.length
    · obtain ⟨hj1, hj2, hj3⟩ := hgo
      have hjI : (j : Int) < 1024 := by omega
      have hpI : (0 : Int) < (R.pre.length : Int) := by omega
      obtain ⟨q, hq⟩ : ∃ q, q = 2 * j := ⟨_, rfl⟩
      have HQ : Hid (q = 2 * j) := Lib.hid hq
      have HWq : Hid (IntKind.i64.wrap (2 * (j : Int)) = (q : Int) ∧ wrap64 (2 * (j : Int)) = (q : Int) ∧ IntKind.i64.wrap ((q : Int) + 1) = ((q + 1 : Nat) : Int) ∧ wrap64 ((q : Int) + 1) = ((q + 1 : Nat) : Int)) := Lib.hid (by
        have e1 : 2 * (j : Int) = (q : Int) := by omega
        have e2 : (q : Int) + 1 = ((q + 1 : Nat) : Int) := by omega
        have h1 : (q : Int) ≤ 2048 ∧ 0 ≤ (q : Int) := by omega
        rw [e1, e2]
        have h2 : ((q + 1 : Nat) : Int) ≤ 2049 ∧ 0 ≤ ((q + 1 : Nat) : Int) := by omega
        exact ⟨Go.IntWalk.i64_in _ (by omega), Go.IntWalk.wrap64_in _ (by omega), Go.IntWalk.i64_in _ (by omega), Go.IntWalk.wrap64_in _ (by omega)⟩)
      clear hq
      have HNext : Hid (∀ i, i < j + 1 → (rcvAt snd FS r0 i).miss ≠ [] ∧ (i : Int) < rounds) := Lib.hid (fun i hi => by
        by_cases h : i < j
        · exact HJ.out i h
        · obtain rfl : i = j := by omega
          exact ⟨fun e => by have h9 := HPl.out; rw [e] at h9; simp only [List.length_nil] at h9; omega, hj1⟩)
      have HRcv : Hid (rcvAt snd FS r0 (j + 1) = takeAllR (rcvAt snd FS r0 j) (zsAt snd (rcvAt snd FS r0 j) (ofF FS (2 * j)) (ofF FS (2 * j + 1)) 4)) := Lib.hid rfl
      obtain ⟨rn, hrn⟩ : ∃ rn, rn = rcvAt snd FS r0 (j + 1) := ⟨_, rfl⟩
      have HRd := Lib.hid hrn
      rw [← hrn] at HRcv
      clear hrn
      generalize rcvAt snd FS r0 j = rr at *
      have HF1 : Hid ((ofP fl q).fs = ofF FS (2 * j)) := Lib.hid (by rw [ofP_fs, HFS.out, HQ.out])
      have HF2 : Hid ((ofP fl (q + 1)).fs = ofF FS (2 * j + 1)) := Lib.hid (by rw [ofP_fs, HFS.out, HQ.out])
      rw [← HF1.out, ← HF2.out] at HRcv
      have HFo : ∀ k, Hid ((∀ x ∈ (ofP fl k).fs, FtOk x) ∧ (ofP fl k).fs.length ≤ 1000) := fun k => Lib.hid (ofP_mem (Q := fun f => (∀ x ∈ f.fs, FtOk x) ∧ f.fs.length ≤ 1000) ⟨fun x hx => (by cases hx), Nat.zero_le _⟩ HO.out.ofs)
      have HFo1 := HFo q
      have HFo2 := HFo (q + 1)
      have HIW := Lib.hid (fun W (hg : Below w.heap.size w W) => HIn.out.up (show Grew w W from hg))
      have HFr := Lib.hid (fun k W (hg : Below w.heap.size w W) => (ofP_mem (Q := fun f => Row W W.heap.size f.A (ftsC f.fs)) (k := k) Row.nil (HIn.out.up (show Grew w W from hg)).rfs))
      have hlm := HP.out.ok.len.2.2.1
      have HZl := Lib.hid (fun i => zsAt_length (cs := snd) HP.out.ok HFo1.out.2 HFo2.out.2 i)
      have HZk := Lib.hid (fun i => zsAt_ok (cs := snd) (f1 := (ofP fl q).fs) (f2 := (ofP fl (q + 1)).fs) HP.out.ok HO.out.osnd i)
      clear HFo
      have HA := refAsk37_any L R (R.pre.length : Int) wr HP.out.ref (HP.out.rel.ok HP.out.ok)
      unfold rfV RfAskRes at HA
      have HA := Lib.hid HA
      go_wp2_with fail
      refine HA.out.mono ?_
      clear HA b0 b1 b2 b3 b4 HBX
      rintro e w4 ⟨m, Aa, ca, rfl, hm, hd, hown4, hg4⟩
      obtain rfl : m = R.pre.length := by omega
      have HPb := Lib.hid (HP.out.of hg4)
      have hp1k : R.pre.length ≤ 1024 := by have := HPl.out; omega
      have HC := refCarry_any Aa ca (rfAsk R R.pre.length) (ofP fl q).A (ofP fl q).cap (ofP fl q).fs w4 (own_row hown4) (fun x hx => by unfold rfAsk at hx; obtain ⟨y, _, rfl⟩ := List.mem_map.1 hx; exact ⟨Row.nil, by simp⟩) (HFr.out q w4 HPb.out.ch) HFo1.out.1 (by have h1 := HFo1.out.2; rw [rfAsk_length R _ (Nat.le_refl _)]; omega)
      rw [rfAsk_length R _ (Nat.le_refl _), HP.out.rel.askAll HP.out.ok] at HC
      unfold RefRes at HC
      have HC := Lib.hid HC
      have HOf := Lib.hid (refOf37_any AF fc w4.heap.size q fl w4 (HIW.out w4 HPb.out.ch).rfl HO.out.nfl)
      obtain ⟨hq1, hq2, _, _⟩ := HWq.out
      clear hd hm hg4 HP
      go_wp2_with fail
      refine HOf.out.mono ?_
      rintro e w5 ⟨rfl, rfl⟩
      clear HOf hq1 hq2
      go_wp2_with fail
      refine HC.out.mono ?_
      clear HC hown4
      rintro e w6 ⟨A6, c6, ql, rfl, hz6, hR6, hb6⟩
      have HZ6 : Hid (ql.map Pk.z = zsAt snd rr (ofP fl q).fs (ofP fl (q + 1)).fs 2) := Lib.hid hz6
      have HAs : Hid (∀ x ∈ ql, AskZ x.z) := Lib.hid (fun x hx => by
        have h1 : x.z ∈ ql.map Pk.z := List.mem_map_of_mem hx
        rw [hz6] at h1
        exact carryZ_ask (askZ_ask HPb.out.ok) _ h1)
      have hll : ql.length ≤ 4000 := by have h1 := HZl.out 2; rw [← HZ6.out, List.length_map] at h1; exact h1
      have HPc := Lib.hid (HPb.out.of hb6)
      have HR6 := Lib.hid hR6.row
      have HE3 : Hid (answersZ snd (ql.map Pk.z) = zsAt snd rr (ofP fl q).fs (ofP fl (q + 1)).fs 3) := Lib.hid (by rw [HZ6.out]; rfl)
      clear hz6 hR6 hb6 HPb
      go_wp2_with fail
      go_loopw [16, 18] (fun v i W => ∃ (k : Nat) (bl : List Pk) (Ao : Option Addr) (co : Nat), k ≤ ql.length ∧ i = .int .i64 k ∧ v = .slice Ao bl.length co ∧ bl.length ≤ k ∧ Hid (bl.map Pk.z = answersZ snd ((ql.map Pk.z).take k)) ∧ Hid (PktS W w6.heap.size 1024 Ao co bl) ∧ Hid (Grew w6 W)) (fun _ i _ => ql.length - (intOf i).toNat)
      case atStart => exact ⟨0, [], none, 0, Nat.zero_le _, rfl, rfl, Nat.le_refl _, Lib.hid rfl, Lib.hid PktS.nil, Lib.hid (Grew.refl _)⟩
      case round =>
        obtain ⟨k, bl, Ao, co, hk, rfl, rfl, hbk, HB, HS, HG⟩ := hrel
        have HPd := Lib.hid (HPc.out.of HG.out)
        by_cases hlt : k < ql.length
        · obtain ⟨ga, rfl, hga1, hga2⟩ := own_some HR6.out (Nat.lt_of_le_of_lt (Nat.zero_le _) hlt)
          obtain ⟨d0, d1, d2, d3, d4⟩ := pks_lit (own_row (own_below HR6.out HG.out)) hlt
          have HAk := Lib.hid (HAs.out _ (List.getElem_mem hlt))
          have hsn := Lib.hid (show answersZ snd ((ql.map Pk.z).take (k + 1)) = answersZ snd ((ql.map Pk.z).take k) ++ ((srvO snd ql[k].kind ql[k].id ql[k].frm).map fun ys => (⟨2, ql[k].id, ql[k].frm, ys⟩ : PkZ)).toList by
            rw [List.take_succ_eq_append_getElem (by rw [List.length_map]; exact hlt), answersZ_snoc, List.getElem_map]; rfl)
          generalize ql[k] = y at d0 d1 d2 d3 d4 HAk hsn
          have HYk : y.kind = 1 := HAk.out.1
          have HYp : y.p.zs = [] := HAk.out.2.1
          obtain ⟨yk, ⟨y1, y2⟩, yf, ⟨yA, yc, yz⟩⟩ := y
          simp only at HYk HYp hsn d0 d1 d2 d3 d4
          subst HYk
          subst HYp
          simp only [List.length_nil] at d4
          have hI9 := HIW.out wr HPd.out.ch
          have hyf1 : 0 ≤ yf := HAk.out.2.2.2.1
          have hyf2 : yf ≤ 1048576 := HAk.out.2.2.2.2
          have hn2' := HN2.out
          have HSv := Lib.hid (refServe37_any y1 y2 yf yA yc As sc snd wr hI9.rsnd hI9.rsin hn2' (by omega) (by omega))
          have HYw : Hid (WfI (y1, y2)) := Lib.hid HAk.out.2.2.1
          clear hn2' hI9 hyf1 hyf2 HAk
          go_wp2_with fail
          refine HSv.out.mono ?_
          clear HSv d0 d1 d2 d3 d4
          cases hsv : srvO snd 1 (y1, y2) yf with
          | none =>
            rintro e w7 ⟨rfl, hg7⟩
            have hga7 := grew_alloc w7 (.cells #[.int .i64 0, .int .u64 0, .int .i64 0, .int .i64 0, .slice none 0 0] 55)
            have hg8 := Grew.trans hg7 hga7
            have HB8 : Hid (bl.map Pk.z = answersZ snd ((ql.map Pk.z).take (k + 1))) := Lib.hid (by rw [hsn.out, hsv, HB.out]; simp)
            have HS8 := Lib.hid (HS.out.of hg8)
            have HG8 := Lib.hid (Grew.trans HG.out hg8)
            clear hg7 hga7 hg8 hsv hsn HB HS HG HPd
            unfold pk0
            go_wp2_with fail
            go_roundw
            case rel => exact ⟨k + 1, bl, Ao, co, by omega, by go_num, rfl, by omega, HB8, HS8, HG8⟩
            case measure => simp [intOf]; omega
          | some ys =>
            rintro e w7 ⟨A2, k2, rfl, hown2, hg7⟩
            obtain ⟨hyb, hyl⟩ := srv_ok (fun c hc => (HO.out.osnd c hc).2) hsv
            have hcap := (own_cap hown2).1
            have HQy : Hid (PkQ 1024 ⟨2, (y1, y2), yf, ⟨A2, k2, ys⟩⟩) := Lib.hid ⟨HYw.out, hyb, hyl, hcap⟩
            have htx := (Tx.own hown2).mono HG.out.size
            have hga7 := grew_alloc w7 (.cells #[.int .i64 2, .int .u64 y1, .int .i64 y2, .int .i64 yf, .slice A2 ys.length k2] 55)
            have kB := Blk.new w7 55 #[.int .i64 2, .int .u64 y1, .int .i64 y2, .int .i64 yf, .slice A2 ys.length k2]
            have b0 := (kB.cell 0).trans (show _ = some (.int .i64 2) from rfl)
            have b1 := (kB.cell 1).trans (show _ = some (.int .u64 y1) from rfl)
            have b2 := (kB.cell 2).trans (show _ = some (.int .i64 y2) from rfl)
            have b3 := (kB.cell 3).trans (show _ = some (.int .i64 yf) from rfl)
            have b4 := (kB.cell 4).trans (show _ = some (.slice A2 ys.length k2) from rfl)
            simp only [pkV, Part.v]
            go_upto_region 13 with (fail)
            generalize w7.alloc (.cells #[.int .i64 2, .int .u64 y1, .int .i64 y2, .int .i64 yf, .slice A2 ys.length k2] 55) = w8 at *
            generalize w7.heap.size = g7 at *
            have hgb := grew_alloc w8 (.cells #[.int .i64 2, .int .u64 y1, .int .i64 y2, .int .i64 yf, .slice A2 ys.length k2] 55)
            have HV := Lib.hid (Blk.row (Blk.new w8 55 #[.int .i64 2, .int .u64 y1, .int .i64 y2, .int .i64 yf, .slice A2 ys.length k2]))
            have hgt := Grew.trans hga7 hgb
            have hg9 := Grew.trans hg7 hgt
            have HS9 := Lib.hid (HS.out.of hg9)
            have htx9 := htx.of hgt
            have hgW9 := Grew.trans HG.out hg9
            have hs9 : w6.heap.size ≤ (w8.alloc (.cells #[.int .i64 2, .int .u64 y1, .int .i64 y2, .int .i64 yf, .slice A2 ys.length k2] 55)).heap.size := hgW9.size
            have hrow9 := HS9.out.row
            have HX : Hid (∀ (A8 : Option Addr) (c8 : Nat) (w9 : World), w9.ownsRow w6.heap.size 55 5 (.slice A8 (bl.length + 1) c8) (bl.length + 1) (pksC bl ++ pkC ⟨2, (y1, y2), yf, ⟨A2, k2, ys⟩⟩) → (w8.alloc (.cells #[.int .i64 2, .int .u64 y1, .int .i64 y2, .int .i64 yf, .slice A2 ys.length k2] 55)).grownBy w9 (Value.slice Ao bl.length co).ownBlock →
                PktS w9 w6.heap.size 1024 A8 c8 (bl ++ [⟨2, (y1, y2), yf, ⟨A2, k2, ys⟩⟩]) ∧ Grew w6 w9) := Lib.hid (fun A8 c8 w9 h1 h2 => ⟨HS9.out.snoc htx9 HQy.out h1 h2, Below.trans (B := w6.heap.size) hgW9 (below_grown h2 hgW9.size (own_lt HS9.out.row))⟩)
            have HB9 : Hid ((bl ++ [(⟨2, (y1, y2), yf, ⟨A2, k2, ys⟩⟩ : Pk)]).map Pk.z = answersZ snd ((ql.map Pk.z).take (k + 1))) := Lib.hid (by rw [hsn.out, hsv, List.map_append, HB.out]; rfl)
            clear hga7 hgb hg7 hsv hgt hg9 htx hown2 kB hyb hyl hcap htx9 HS9 hgW9 HS HG HPd hsn HB
            go_wp2_with (at_builtin; go_loud (refine wpList_append_row rfl (.tmp 71) (.tmp 73) rfl w6.heap.size elem_pk (by rfl) hrow9 _ (by rfl) (by rfl) HV.out (ones_pk ⟨2, (y1, y2), yf, ⟨A2, k2, ys⟩⟩) (by unfold maxLen; omega) (by omega) hs9 ?_); intro A8 c8 w9 hown9 hg9 _)
            obtain ⟨h1, h2⟩ := HX.out A8 c8 w9 hown9 hg9
            have H1 := Lib.hid h1
            have H2 := Lib.hid h2
            clear hown9 hg9 HX hrow9 h1 h2 HV
            go_roundw
            case rel => exact ⟨k + 1, bl ++ [⟨2, (y1, y2), yf, ⟨A2, k2, ys⟩⟩], A8, c8, by omega, by go_num, by rw [List.length_append]; rfl, by rw [List.length_append, List.length_singleton]; omega, HB9, H1, H2⟩
            case measure => simp [intOf]; omega
        · obtain rfl : k = ql.length := by omega
          have hzb : bl.map Pk.z = zsAt snd rr (ofP fl q).fs (ofP fl (q + 1)).fs 3 := by
            have h1 := HB.out
            rw [List.take_of_length_le (by rw [List.length_map]; exact Nat.le_refl _)] at h1
            rw [h1, HE3.out]
          have HC := refCarry_any Ao co bl (ofP fl (q + 1)).A (ofP fl (q + 1)).cap (ofP fl (q + 1)).fs wr (own_row HS.out.row) (fun x hx => ⟨(HS.out.tx x hx).row, by have := (HS.out.ok x hx).len; omega⟩) (HFr.out (q + 1) wr HPd.out.ch) HFo2.out.1 (by have h1 := HFo2.out.2; omega)
          rw [hzb] at HC
          unfold RefRes at HC
          have HC := Lib.hid HC
          have HOf := Lib.hid (refOf37_any AF fc wr.heap.size (q + 1) fl wr (HIW.out wr HPd.out.ch).rfl HO.out.nfl)
          obtain ⟨hq1, hq2, hq3, hq4⟩ := HWq.out
          clear hzb HB HE3 HZ6 HAs HR6
          go_wp2_with fail
          refine HOf.out.mono ?_
          rintro e w5 ⟨rfl, rfl⟩
          clear HOf hq1 hq2 hq3 hq4
          obtain ⟨wb, hwb⟩ : ∃ wb, wb = wr := ⟨_, rfl⟩
          subst hwb
          go_wp2_with fail
          refine HC.out.mono ?_
          clear HC
          rintro e w8 ⟨A8, c8, l, rfl, hz8, hR8, hb8⟩
          have HZ8 : Hid (l.map Pk.z = zsAt snd rr (ofP fl q).fs (ofP fl (q + 1)).fs 4) := Lib.hid hz8
          have hl8 : l.length ≤ 4000 := by have h1 := HZl.out 4; rw [← HZ8.out, List.length_map] at h1; exact h1
          have HPe := Lib.hid (HPd.out.of hb8)
          have hgRb : gR < wb.heap.size := HPd.out.box.lt
          have HLx : Hid (∀ x ∈ l, Byt x.p.zs ∧ x.p.zs.length ≤ 1024 ∧ ∀ W, Ch (At gR) w8 W → Row W W.heap.size x.p.A (x.p.zs.map (.int .u8))) := Lib.hid (fun x hx => by
            have h1 : x.z ∈ l.map Pk.z := List.mem_map_of_mem hx
            rw [HZ8.out] at h1
            obtain ⟨_, h2, h3⟩ := HZk.out 4 _ h1
            have hrx := (hR8.bt x hx).row hb8.size
            exact ⟨h2, h3, fun W hc => hrx.chD (D := fun i => i ≠ gR) (fun e => bt_at hrx (fun e2 => e (by rw [e2]; rfl)) HPe.out.box (box_no R L)) hc (fun i hi hne => hne hi)⟩)
          have HLr := Lib.hid hR8.row
          have HRn : Hid (rn = takeAllR rr (l.map Pk.z)) := Lib.hid (by rw [HZ8.out]; exact HRcv.out)
          clear hz8 hR8 hb8 HPd HS HG HRcv HZ8 HZl HZk
          go_wp2_with fail
          go_loopw [21] (fun v W => ∃ (i : Nat) (L2 : RfL) (R2 : RfR), v = .int .i64 i ∧ i ≤ l.length ∧ Hid (BxSt w W gR L2 R2 (takeAllR rr ((l.map Pk.z).take i))) ∧ Hid (Ch (At gR) w8 W)) (fun v _ => l.length - (intOf v).toNat)
          case atStart => exact ⟨0, L, R, rfl, Nat.zero_le _, HPe, Lib.hid (Ch.refl _ _)⟩
          case round =>
            clear HPe HPc
            obtain ⟨i, L2, R2, rfl, hi, HPi, HCl⟩ := hrel
            by_cases hlt : i < l.length
            · obtain ⟨ga, rfl, hga1, hga2⟩ := own_some HLr.out (Nat.lt_of_le_of_lt (Nat.zero_le _) hlt)
              obtain ⟨d0, d1, d2, d3, d4⟩ := pks_lit (own_row (own_ch HLr.out HCl.out (fun q hq h => by have h1 := own_lt HLr.out q hq; have h2 : q = gR := h; omega))) hlt
              have HX := Lib.hid (HLx.out _ (List.getElem_mem hlt))
              have hsn := Lib.hid (takeAllR_snoc rr (l.map Pk.z) i (by rw [List.length_map]; exact hlt))
              rw [List.getElem_map] at hsn
              generalize l[i] = x at d0 d1 d2 d3 d4 HX hsn
              obtain ⟨xk, ⟨x1, x2⟩, xf, ⟨xA, xc, xz⟩⟩ := x
              simp only at d0 d1 d2 d3 d4
              have HRX := Lib.hid (fun W (hg : Grew wr W) => (((HX.out.2.2 wr HCl.out).up hg (Nat.le_refl _)).more hg.size : Row W W.heap.size xA (xz.map (.int .u8))))
              have HEq : Hid ((takeR (takeAllR rr ((l.map Pk.z).take i)) xk (x1, x2) xf xz).1 = takeAllR rr ((l.map Pk.z).take (i + 1))) := Lib.hid (by rw [hsn.out]; rfl)
              clear hsn
              obtain ⟨rz, hrz⟩ : ∃ rz, rz = takeAllR rr ((l.map Pk.z).take (i + 1)) := ⟨_, rfl⟩
              rw [← hrz] at HEq
              have HZz := Lib.hid hrz
              clear hrz
              generalize takeAllR rr ((l.map Pk.z).take i) = ry at *
              have HBX2 := Lib.hid HPi.out.box
              have b0 := (HBX2.out.cell 0).trans (show _ = some (.int .i64 R2.n) from rfl)
              have b1 := (HBX2.out.cell 1).trans (show _ = some (.slice L2.ai R2.ids.length L2.ci) from rfl)
              have b2 := (HBX2.out.cell 2).trans (show _ = some (.slice L2.ah R2.had.length L2.ch) from rfl)
              have b3 := (HBX2.out.cell 3).trans (show _ = some (.slice L2.ag R2.got.length L2.cg) from rfl)
              have b4 := (HBX2.out.cell 4).trans (show _ = some (.slice L2.ap R2.pre.length L2.cp) from rfl)
              have hnA : ¬ At gR ga := fun h => by have h2 : ga = gR := h; omega
              have hlx : xz.length ≤ 9223372036854775807 := by have := HX.out.2.1; simp only at this; omega
              go_upto_region 18 with (fail)
              refine wp_region_cls (Ch (At gR) wr) 10 (by kernel_rfl) ?_
              have hc0 := (Ch.refl (At gR) wr).drew
              refine AllC.head 1 4 (fuel := 6) (by first | exact fun h k => Grew.trans h k | exact fun h k => cls_grew h k) (hc0) (by rfl) (by kernel_rfl) ?_
              simp only [List.take_succ_cons, List.take_zero, List.drop_succ_cons, List.drop_zero]
              repeat (first
                | (refine HeadC.val (by rfl) ?_
                   apply Exists.intro
                   refine ⟨fun w' hw' => ?_, ?_⟩
                   · (have hf_0 := hw'.cell d0 hnA; have hf_1 := hw'.cell d1 hnA; have hf_2 := hw'.cell d2 hnA; have hf_3 := hw'.cell d3 hnA; have hf_4 := hw'.cell d4 hnA; (go_simp) <;> (try go_ints) <;> with_reducible rfl)
                   try simp only [Act.put, List.setIfInBounds_toArray, List.set_cons_zero, List.set_cons_succ])
                | (refine HeadC.shut (by rfl) ?_
                   try simp only [Act.put, List.setIfInBounds_toArray, List.set_cons_zero, List.set_cons_succ]))
              refine HeadC.nil ?_
              refine AllC.one 0 (by kernel_rfl) rfl ?_
              intro wg hg K hK
              have hg1 : Grew wr wg := (grew_drew wr).trans hg
              have e0 := cell_up hg1 b0
              have e1 := cell_up hg1 b1
              have e2 := cell_up hg1 b2
              have e3 := cell_up hg1 b3
              have e4 := cell_up hg1 b4
              go_simp
              refine hK.out _ _ (Ch.of_below hg1) ?_
              clear hK K hg e0 e1 e2 e3 e4 b0 b1 b2 b3 b4 hc0 HBX2 d0 d1 d2 d3 d4
              try simp only [Act.put, List.setIfInBounds_toArray, List.set_cons_zero, List.set_cons_succ]
              refine AllC.one 5 (by kernel_rfl) rfl ?_
              intro wg hg K hK
              go_simp
              have hg2 := Grew.trans hg1 hg
              have HTk := refTake37_any L2 R2 ry ⟨xk, (x1, x2), xf, ⟨xA, xc, xz⟩⟩ wg (HPi.out.ref.up hg2) HPi.out.rel HPi.out.ok (HRX.out wg hg2) HX.out.1 hlx
              unfold rfV RefTakeRes at HTk
              simp only [Part.v] at HTk
              refine HTk.mono ?_
              clear HTk
              rintro e w22 ⟨L3, R3, rfl, hI3, hF3, hg3, hA3⟩
              rw [HEq.out] at hF3
              have hA3' : ∀ D, RfAt D L2 R2 → RfAt (DnD D wr.heap.size) L3 R3 := fun D hD => (hA3 D hD).mono (fun q hq => hq.imp id (fun h => Nat.le_trans hg2.size h))
              have hg4 := Grew.trans hg2 hg3
              refine hK.out _ _ (Ch.of_below hg4) ?_
              clear hK K hg hg1 hg2 hg3 hA3
              unfold rfV
              try simp only [Act.put, List.setIfInBounds_toArray, List.set_cons_zero, List.set_cons_succ]
              have hc4 : Ch (At gR) wr w22 := Ch.of_below hg4
              refine AllC.head 6 3 (fuel := 1) (by first | exact fun h k => Grew.trans h k | exact fun h k => cls_grew h k) (hc4) (by rfl) (by kernel_rfl) ?_
              simp only [List.take_succ_cons, List.take_zero, List.drop_succ_cons, List.drop_zero]
              repeat (first
                | (refine HeadC.val (by rfl) ?_
                   apply Exists.intro
                   refine ⟨fun w' hw' => ?_, ?_⟩
                   · (have hf_0 := hc4; (go_simp) <;> (try go_ints) <;> with_reducible rfl)
                   try simp only [Act.put, List.setIfInBounds_toArray, List.set_cons_zero, List.set_cons_succ])
                | (refine HeadC.shut (by rfl) ?_
                   try simp only [Act.put, List.setIfInBounds_toArray, List.set_cons_zero, List.set_cons_succ]))
              refine HeadC.nil ?_
              refine AllC.one 9 (by kernel_rfl) rfl ?_
              intro wg hg K hK
              have hg5 := Grew.trans hg4 hg
              have hput := HPi.out.put hg5 (hI3.up hg) hF3 (by have h9 := HPi.out.ok.take xk (x1, x2) xf xz HX.out.1; rw [HEq.out] at h9; exact h9) hA3'
              have hb5 := (HPi.out.of hg5).box
              have y0 := hb5.frozen 0
              have y1 := hb5.frozen 1
              have y2 := hb5.frozen 2
              have y3 := hb5.frozen 3
              have y4 := hb5.frozen 4
              have e0 := (hb5.cell 0).trans (show _ = some (.int .i64 R2.n) from rfl)
              have e1 := (hb5.cell 1).trans (show _ = some (.slice L2.ai R2.ids.length L2.ci) from rfl)
              have e2 := (hb5.cell 2).trans (show _ = some (.slice L2.ah R2.had.length L2.ch) from rfl)
              have e3 := (hb5.cell 3).trans (show _ = some (.slice L2.ag R2.got.length L2.cg) from rfl)
              have e4 := (hb5.cell 4).trans (show _ = some (.slice L2.ap R2.pre.length L2.cp) from rfl)
              have HPp := Lib.hid hput.1
              have HCp := Lib.hid hput.2
              clear hput hb5
              go_simp
              refine hK.out _ _ ((Ch.of_below hg5).trans HCp.out) ?_
              clear hK K hc4 hI3 hF3 hA3' y0 y1 y2 y3 y4 e0 e1 e2 e3 e4
              try simp only [Act.put, List.setIfInBounds_toArray, List.set_cons_zero, List.set_cons_succ]
              refine AllC.done (by kernel_rfl) (fun wt hwt => ?_)
              have HPj := Lib.hid (HPp.out.of hwt)
              have HCl2 : Hid (Ch (At gR) w8 wt) := Lib.hid (((HCl.out.next hg5).trans HCp.out).next hwt)
              clear HPp HCp hwt hg5 hg4 hg hnA HPi HRX HX
              go_wp2_with fail
              go_roundw
              case rel => exact ⟨i + 1, L3, R3, by go_num, by omega, by rw [HZz.out] at HPj; exact HPj, HCl2⟩
              case measure => simp [intOf]; omega
            · obtain rfl : i = l.length := by omega
              have HPn : Hid (BxSt w wr gR L2 R2 rn) := Lib.hid (by
                have h1 := HPi.out
                rw [List.take_of_length_le (by rw [List.length_map]; exact Nat.le_refl _), ← HRn.out] at h1
                exact h1)
              clear HPi HCl HLx HLr
              go_wp2_with fail
              go_roundw
              case rel => exact ⟨j + 1, L2, R2, by go_num, by omega, HNext, by rw [HRd.out] at HPn; exact HPn⟩
              case measure => simp [intOf]; omega
    · have HEnd : Hid (Rounds snd FS r0 rounds j) := Lib.hid ⟨hj, HJ.out, by
        by_cases h1 : (j : Int) < rounds
        · by_cases h2 : j < 1024
          · left
            have h3 : ¬ 0 < R.pre.length := fun h => hgo ⟨h1, h2, h⟩
            rw [HPl.out] at h3
            exact List.eq_nil_of_length_eq_zero (by omega)
          · exact .inr (.inr (by omega))
        · exact .inr (.inl (by omega))⟩
      have HD := refDone37_any L R wr HP.out.ref (HP.out.rel.ok HP.out.ok) (HP.out.rel.okC HP.out.ok HP.out.at_)
      unfold rfV RfDoneRes at HD
      have HD := Lib.hid HD
      have hjI : (j : Int) ≤ 1024 := by omega
      have hcond : ¬ (j : Int) < rounds ∨ ((j : Int) < rounds ∧ ¬ (j : Int) < 1024) ∨ ((j : Int) < rounds ∧ (j : Int) < 1024 ∧ ¬ (0 : Int) < (R.pre.length : Int)) := by omega
      clear hgo
      rcases hcond with hc | ⟨hc1, hc2⟩ | ⟨hc1, hc2, hc3⟩
      all_goals
        go_wp2_with fail
        refine HD.out.mono ?_
        rintro e w9 ⟨hg9, hif⟩
        have HG9 : Hid (Grew w w9) := Lib.hid (Below.trans (B := w.heap.size) HP.out.ch (hg9.mono HP.out.ch.size))
        have hl9 := HP.out.ch.size
        by_cases hpr : R.pre = []
        · rw [if_pos hpr] at hif
          obtain ⟨A9, c9, rfl, hown9⟩ := hif
          have hmm : (rcvAt snd FS r0 j).miss = [] := List.eq_nil_of_length_eq_zero (by rw [← HPl.out, hpr]; rfl)
          rw [HP.out.rel.done_ HP.out.ok hmm] at hown9 ⊢
          have HE : Hid (RunRes n ids hs snd rounds FS w (.returned (.tuple #[.slice A9 (doneT (rcvAt snd FS r0 j) (rcvAt snd FS r0 j).ids).length c9, .bool true, .int .i64 j])) w9) := Lib.hid ⟨HG9.out, by
            rw [if_pos HChk.out]
            refine ⟨j, A9, c9, by rw [← HR0.out]; exact HEnd.out, ?_, ?_⟩
            · rw [← HR0.out]
              unfold runZ
              rw [if_pos hmm, decide_eq_true hmm]
            · rw [← HR0.out]
              unfold runZ
              rw [if_pos hmm]
              exact own_mono hown9 hl9⟩
          clear hown9 hmm hpr hg9 HD HP HBX
          generalize (doneT (rcvAt snd FS r0 j) (rcvAt snd FS r0 j).ids).length = dl at *
          go_wp2_with fail
          refine bodyPost_ret (v := .tuple #[.slice A9 dl c9, .bool true, .int .i64 j]) ?_ rfl (by rw [← HFS.out]; exact HE.out)
          simp [results, Try.results43, go_sem]
        · rw [if_neg hpr] at hif
          subst hif
          have hmm : ¬ (rcvAt snd FS r0 j).miss = [] := fun e => hpr (List.eq_nil_of_length_eq_zero (by rw [HPl.out, e]; rfl))
          have HE : Hid (RunRes n ids hs snd rounds FS w (.returned (.tuple #[.slice none 0 0, .bool false, .int .i64 j])) w9) := Lib.hid ⟨HG9.out, by
            rw [if_pos HChk.out]
            refine ⟨j, none, 0, by rw [← HR0.out]; exact HEnd.out, ?_, ?_⟩
            · rw [← HR0.out]
              unfold runZ
              rw [if_neg hmm, decide_eq_false hmm]
              rfl
            · rw [← HR0.out]
              unfold runZ
              rw [if_neg hmm]
              exact World.ownsRow_nil _ _ _ _⟩
          clear hmm hpr hg9 HD HP HBX
          go_wp2_with fail
          refine bodyPost_ret (v := .tuple #[.slice none 0 0, .bool false, .int .i64 j]) ?_ rfl (by rw [← HFS.out]; exact HE.out)
          simp [results, Try.results43, go_sem]
end Go.Proofs.Ytpoiejgoongllaa
