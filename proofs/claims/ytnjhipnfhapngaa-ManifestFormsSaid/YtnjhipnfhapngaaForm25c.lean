/-
  ref25.Decode.
-/
import Derived.Test.YtnjhipnfhapngaaForm25b
namespace Go.Proofs.Ytnjhipnfhapngaa
section
set_option linter.unusedVariables false
set_option linter.unusedSimpArgs false
set_option linter.unnecessarySimpa false
open Go.RowKit
attribute [local go_sem ↓] Go.wp_at_zero Go.wp_at_succ

set_option maxRecDepth 100000 in
set_option maxHeartbeats 2000000 in
theorem refDecode_any (A : Option Addr) (cap B : Nat) (l : List Nat) (w : World) (hr : Row w B A (bysN l)) (hB : B ≤ w.heap.size) (hb : ∀ c ∈ l, c < 256) (hc : l.length ≤ cap) (hm : l.length ≤ 4611686018427387904) :
    Calls Try.prog 39 #[.slice A l.length cap] w (DecRes l w) := by
  have g0 := grew_alloc w (.cells #[.int .i64 0, .slice none 0 0] 31)
  have hR := Blk.new w 31 #[.int .i64 0, .slice none 0 0]
  have hr1 := hr.below g0 hB
  have gs : (w.alloc (.cells #[.int .i64 0, .slice none 0 0] 31)).heap.size = w.heap.size + 1 := by simp
  have HU := Lib.hid (fun (W : World) (a : Nat) (h : Row W B A (bysN l)) (ha : a ≤ l.length) => takeUint_any A cap B l a W h hb hc hm ha)
  have HU0 := HU.out _ 0 hr1 (Nat.zero_le _)
  rw [show ((0 : Nat) : Int) = 0 from rfl] at HU0
  have z0 := hR.frozen 0
  have z1 := hR.frozen 1
  have c0 := (hR.cell 0).trans (show _ = some (.int .i64 0) from rfl)
  have c1 := (hR.cell 1).trans (show _ = some (.slice none 0 0) from rfl)
  have hgr : w.heap.size + 1 ≤ w.heap.size + 1 := Nat.le_refl _
  go_enter Try.func39, Try.ntmps39
  go_wp2_with fail
  generalize w.alloc (.cells #[.int .i64 0, .slice none 0 0] 31) = w1 at *
  generalize hgc : w.heap.size = gc at *
  have HGc := Lib.hid hgc
  clear hgc
  have gB : Below gc w w1 := by have h : Below w.heap.size w w1 := g0; rw [HGc.out] at h; exact h
  have HF := Lib.hid (fun (W : World) (h : Blk W gc 31 #[.int .i64 0, .slice none 0 0]) (hg : Below gc w W) =>
    (show ((W.setCell ⟨gc, 0, none⟩ (.int .i64 0)).setCell ⟨gc, 1, none⟩ (.slice none 0 0)).cell? ⟨gc, 0, none⟩ = some (.int .i64 0) ∧
      ((W.setCell ⟨gc, 0, none⟩ (.int .i64 0)).setCell ⟨gc, 1, none⟩ (.slice none 0 0)).cell? ⟨gc, 1, none⟩ = some (.slice none 0 0) ∧
      Below gc w ((W.setCell ⟨gc, 0, none⟩ (.int .i64 0)).setCell ⟨gc, 1, none⟩ (.slice none 0 0))
     from ⟨(((h.set_ 0 _).set_ 1 _).cell 0).trans rfl, (((h.set_ 0 _).set_ 1 _).cell 1).trans rfl, (hg.setCell (Nat.le_refl _) _).setCell (Nat.le_refl _) _⟩))
  refine HU0.mono ?_
  rintro e w' ⟨hU, rfl⟩
  clear HU0
  rcases hU with ⟨n, j, hE, hv, hn, rfl⟩ | ⟨x, hN, hx1, hx2, rfl⟩
  · by_cases hn1 : n ≤ 1048576
    · have HG1 := Lib.hid (getN_yes hE hn1)
      rw [Nat.zero_add] at HG1 hn
      simp only [Nat.zero_add]
      have hn1I : ¬ (1048576 : Int) < (n : Int) := by omega
      clear hE hv
      have HU1 := HU.out _ j hr1 hn
      go_wp2_with fail
      refine HU1.mono ?_
      rintro e w' ⟨hU, rfl⟩
      clear HU1
      rcases hU with ⟨c, j2, hE, hv, hn2, rfl⟩ | ⟨x, hN, hx1, hx2, rfl⟩
      · generalize hjj : j + j2 = b at *
        by_cases hc1 : c ≤ 1024
        · have HG2 := Lib.hid (getN_yes hE hc1)
          rw [hjj] at HG2
          have hc1I : ¬ (1024 : Int) < (c : Int) := by omega
          have hnI : (n : Int) ≤ 1048576 := by omega
          clear hE hv hjj
          have hwn : IntKind.i64.wrap (n : Int) = n := Go.IntWalk.i64_in _ (by omega)
          have gA := grew_alloc w' (.cells #[.int .i64 (n : Nat), .slice none 0 0] 31)
          have hM := Blk.new w' 31 #[.int .i64 (n : Nat), .slice none 0 0]
          have gz : (w'.alloc (.cells #[.int .i64 (n : Nat), .slice none 0 0] 31)).heap.size = w'.heap.size + 1 := by simp
          have hRl := hR.lt
          replace hR := hR.of gA
          replace gB : Below gc w (w'.alloc (.cells #[.int .i64 (n : Nat), .slice none 0 0] 31)) := Below.trans (B := gc) gB (gA.mono (by omega))
          replace hr1 := hr1.below gA (by omega)
          clear gA z0 z1 c0 c1
          go_wp2_with fail
          generalize w'.alloc (.cells #[.int .i64 (n : Nat), .slice none 0 0] 31) = w2 at *
          rw [gs] at hM gz hRl
          clear gs hgr
          generalize gc + 1 = gm at *
          go_loopw [5, 9] (fun v i wr => ∃ (k a : Nat) (ids : List IdZ) (Am : Option Addr) (cm : Nat), i = .int .u64 k ∧ v = .int .i64 a ∧ Hid (DecI l c b k a ids) ∧ Blk wr gm 31 #[.int .i64 (n : Nat), .slice Am k cm] ∧ wr.ownsRow (gm + 1) 51 2 (.slice Am k cm) k (idsC ids) ∧ Ch (At gm) w2 wr) (fun _ i _ => c - (intOf i).toNat)
          case atStart => exact ⟨0, b, [], none, 0, rfl, rfl, Lib.hid (DecI.zero hn2), hM, World.ownsRow_nil _ _ _ _, Ch.refl _ _⟩
          case round =>
            obtain ⟨k, a, ids, Am, cm, rfl, rfl, HD, hMr, hown, hch⟩ := hrel
            have hws := hch.size
            have hR2 := hR.lt
            have hgcm : gc < gm := hRl
            have hrr := hr1.ch hch (by omega) (fun j hj => by have h' : j = gm := hj; omega)
            have hRr : Blk wr gc 31 #[.int .i64 0, .slice none 0 0] := hR.ch hch (by show ¬ gc = gm; omega)
            have gBr : Below gc w wr := Below.trans (B := gc) gB (hch.below (by omega) (fun j hj => by rw [hj]; omega))
            have m0 : wr.cell? ⟨gm, 0, none⟩ = some (.int .i64 (n : Nat)) := (hMr.cell 0).trans rfl
            have m1 : wr.cell? ⟨gm, 1, none⟩ = some (.slice Am k cm) := (hMr.cell 1).trans rfl
            have y0 := hRr.frozen 0
            have y1 := hRr.frozen 1
            have e0 : wr.cell? ⟨gc, 0, none⟩ = some (.int .i64 0) := (hRr.cell 0).trans rfl
            have e1 : wr.cell? ⟨gc, 1, none⟩ = some (.slice none 0 0) := (hRr.cell 1).trans rfl
            clear hM hR gB
            by_cases hlt : k < c
            · have hltI : (k : Int) < (c : Int) := by omega
              have hal := HD.out.al
              have HU2 := HU.out wr a hrr hal
              go_wp2_with fail
              refine HU2.mono ?_
              rintro e w' ⟨hU, rfl⟩
              clear HU2
              rcases hU with ⟨k1, j3, hE, hv, hn3, rfl⟩ | ⟨x, hN, hx1, hx2, rfl⟩
              · generalize hjj : a + j3 = b1 at *
                by_cases hk1 : k1 ≤ 8192
                · have HG3 := Lib.hid (getN_yes hE hk1)
                  rw [hjj] at HG3
                  have hk1I : ¬ (8192 : Int) < (k1 : Int) := by omega
                  have hwk : IntKind.i64.wrap (k1 : Int) = k1 := Go.IntWalk.i64_in _ (by omega)
                  clear hE hv hjj
                  have HU3 := HU.out w' b1 hrr hn3
                  go_wp2_with fail
                  refine HU3.mono ?_
                  rintro e w' ⟨hU, rfl⟩
                  clear HU3
                  rcases hU with ⟨s, j4, hE, hv, hn4, rfl⟩ | ⟨x, hN, hx1, hx2, rfl⟩
                  · generalize hjj : b1 + j4 = b2 at *
                    have HG4 := getN_yes hE (show s ≤ maxU by unfold maxU; omega)
                    rw [hjj] at HG4
                    have HS := Lib.hid (HD.out.step hlt HG3.out HG4 hn4 ⟨⟨by omega, by omega⟩, by show (_ : Int) ≤ (k1 : Int); omega, by show (k1 : Int) ≤ _; omega⟩)
                    have hne : (Value.slice Am k cm).ownBlock ≠ some gm := own_blk_ne hown hMr (by decide)
                    clear hE hv hjj HG4
                    go_wp2_with (at_builtin; refine wpList_append_row rfl (.tmp 72) (.tmp 77) rfl (gm + 1) elem_id (by rfl) (hown.alloc _) _ (by rfl) (by rfl) (Blk.row (Blk.new w' 51 #[.int .u64 s, .int .i64 k1])) (by simp [Value.oneCell']) (by unfold maxLen; omega) (by omega) (by simp; omega) ?_; intro A3 c3 w3 hown3 hg3 hwh3; have hM3 := (hMr.alloc (.cells #[.int .u64 (s : Nat), .int .i64 (k1 : Nat)] 51)).ch (Ch.of_own hg3) hne; have f3 := hM3.frozen 1; have m3 : w3.cell? ⟨gm, 1, none⟩ = some (.slice Am k cm) := (hM3.cell 1).trans rfl)
                    have hM4 := hM3.set_ 1 (.slice A3 (k + 1) c3)
                    have hch3 : Ch (At gm) w2 w3 := (hch.alloc _).nextNew (Ch.of_own hg3) (fun i hi => .inl (by have := own_lt hown i hi; omega))
                    have hch4 := hch3.set_at 1 (.slice A3 (k + 1) c3)
                    have hne3 : (Value.slice A3 (k + 1) c3).ownBlock ≠ some gm := own_blk_ne hown3 hM3 (by decide)
                    have hown4 := own_ch hown3 ((Ch.refl (At gm) w3).set_at 1 (.slice A3 (k + 1) c3)) (fun i hi h => hne3 (by rw [hi]; exact congrArg some h))
                    refine ⟨⟨k + 1, b2, _, A3, c3, by go_num, rfl, HS, hM4, ?_, hch4⟩, by simp [intOf]; omega⟩
                    rw [idsC_append]
                    exact hown4
                  · obtain ⟨q1, q2, q3⟩ := dec_no (decM_3 HG1.out HG2.out (HD.out.bad2 hlt HG3.out (getN_no hN)))
                    have hx0 : ¬ x = 0 := by omega
                    clear hN
                    go_wp2_with fail
                    obtain ⟨f0, f1, f2⟩ := HF.out _ hRr gBr
                    refine bodyPost_ret (v := .tuple #[.agg #[.int .i64 0, .slice none 0 0], .int .i64 256]) ?_ rfl ⟨none, 0, by rw [q1, q2, q3]; rfl, .inl (by rw [q2]; rfl), (by rw [q2]; intro x h; cases h), by rw [HGc.out]; exact f2⟩
                    simp [results, Try.results39, go_sem, f0, f1]
                · obtain ⟨q1, q2, q3⟩ := dec_no (decM_3 HG1.out HG2.out (HD.out.bad1 hlt (getN_big hE hk1)))
                  have hk1I : (8192 : Int) < (k1 : Int) := by omega
                  clear hE hv hn3 hjj
                  go_wp2_with fail
                  obtain ⟨f0, f1, f2⟩ := HF.out _ hRr gBr
                  refine bodyPost_ret (v := .tuple #[.agg #[.int .i64 0, .slice none 0 0], .int .i64 256]) ?_ rfl ⟨none, 0, by rw [q1, q2, q3]; rfl, .inl (by rw [q2]; rfl), (by rw [q2]; intro x h; cases h), by rw [HGc.out]; exact f2⟩
                  simp [results, Try.results39, go_sem, f0, f1]
              · obtain ⟨q1, q2, q3⟩ := dec_no (decM_3 HG1.out HG2.out (HD.out.bad1 hlt (getN_no hN)))
                have hx0 : ¬ x = 0 := by omega
                clear hN
                go_wp2_with fail
                obtain ⟨f0, f1, f2⟩ := HF.out _ hRr gBr
                refine bodyPost_ret (v := .tuple #[.agg #[.int .i64 0, .slice none 0 0], .int .i64 256]) ?_ rfl ⟨none, 0, by rw [q1, q2, q3]; rfl, .inl (by rw [q2]; rfl), (by rw [q2]; intro x h; cases h), by rw [HGc.out]; exact f2⟩
                simp [results, Try.results39, go_sem, f0, f1]
            · have hltI : ¬ (k : Int) < (c : Int) := by omega
              have hkc : k = c := by have := HD.out.kc; omega
              have HDk := HD.out
              rw [hkc] at HDk
              have h4 := decM_4 HG1.out HG2.out HDk.done
              have hlen : ids.length = k := HD.out.len
              have hwf := Lib.hid HD.out.wf
              have hrow := own_row hown
              by_cases hal : a = l.length
              · subst hal
                have HC := refCheck25_any (n : Nat) Am cm wr.heap.size ids wr hrow (Nat.le_refl _) (by omega)
                rw [hlen] at HC
                clear HDk HD hkc
                go_wp2_with fail
                refine HC.mono ?_
                rintro e w' ⟨rfl, hbw⟩
                clear HC
                replace hRr := hRr.of hbw
                replace hMr := hMr.of hbw
                replace gBr : Below gc w w' := Below.trans (B := gc) gBr (hbw.mono (by omega))
                replace y0 := hRr.frozen 0
                replace y1 := hRr.frozen 1
                replace e0 : w'.cell? ⟨gc, 0, none⟩ = some (.int .i64 0) := (hRr.cell 0).trans rfl
                replace e1 : w'.cell? ⟨gc, 1, none⟩ = some (.slice none 0 0) := (hRr.cell 1).trans rfl
                replace m0 : w'.cell? ⟨gm, 0, none⟩ = some (.int .i64 (n : Nat)) := (hMr.cell 0).trans rfl
                replace m1 : w'.cell? ⟨gm, 1, none⟩ = some (.slice Am k cm) := (hMr.cell 1).trans rfl
                replace hrow := hrow.up hbw (Nat.le_refl _)
                by_cases hz : chkM (n : Nat) ids = 0
                · rw [if_pos ⟨trivial, hz⟩] at h4
                  obtain ⟨q1, q2, q3⟩ := dec_yes h4
                  rw [hz]
                  clear h4 hz
                  go_wp2_with fail
                  have hF := (hRr.set_ 0 (.int .i64 (n : Nat))).set_ 1 (.slice Am k cm)
                  have f0 := (hF.cell 0).trans (show _ = some (.int .i64 (n : Nat)) from rfl)
                  have f1 := (hF.cell 1).trans (show _ = some (.slice Am k cm) from rfl)
                  have gF := (gBr.setCell (p := ⟨gc, 0, none⟩) (Nat.le_refl _) (.int .i64 (n : Nat))).setCell (p := ⟨gc, 1, none⟩) (Nat.le_refl _) (.slice Am k cm)
                  refine bodyPost_ret (v := .tuple #[.agg #[.int .i64 (n : Nat), .slice Am k cm], .int .i64 0]) ?_ rfl ⟨Am, cm, by rw [q1, q2, q3, hlen], ?_, by rw [q2]; exact hwf.out, by rw [HGc.out]; exact gF⟩
                  · simp [results, Try.results39, go_sem, f0, f1]
                  · rw [q2]
                    exact own_row (own_ch (own_below hown hbw) (((Ch.refl (At gc) w').set_at 0 (.int .i64 (n : Nat))).set_at 1 (.slice Am k cm)) (fun i hi h => by have h1 := own_lt hown i hi; have h2 : i = gc := h; omega))
                · rw [if_neg (fun h => hz h.2)] at h4
                  obtain ⟨q1, q2, q3⟩ := dec_no h4
                  clear h4
                  generalize chkM (n : Nat) ids = z at *
                  go_wp2_with fail
                  obtain ⟨f0, f1, f2⟩ := HF.out _ hRr gBr
                  refine bodyPost_ret (v := .tuple #[.agg #[.int .i64 0, .slice none 0 0], .int .i64 256]) ?_ rfl ⟨none, 0, by rw [q1, q2, q3]; rfl, .inl (by rw [q2]; rfl), (by rw [q2]; intro x h; cases h), by rw [HGc.out]; exact f2⟩
                  simp [results, Try.results39, go_sem, f0, f1]
              · rw [if_neg (fun h => hal h.1)] at h4
                obtain ⟨q1, q2, q3⟩ := dec_no h4
                have halI : ¬ (a : Int) = (l.length : Int) := by omega
                clear h4
                go_wp2_with fail
                obtain ⟨f0, f1, f2⟩ := HF.out _ hRr gBr
                refine bodyPost_ret (v := .tuple #[.agg #[.int .i64 0, .slice none 0 0], .int .i64 256]) ?_ rfl ⟨none, 0, by rw [q1, q2, q3]; rfl, .inl (by rw [q2]; rfl), (by rw [q2]; intro x h; cases h), by rw [HGc.out]; exact f2⟩
                simp [results, Try.results39, go_sem, f0, f1]
        · obtain ⟨q1, q2, q3⟩ := dec_no (decM_2 HG1.out (getN_big hE hc1))
          have hc1I : (1024 : Int) < (c : Int) := by omega
          clear hE hv hn2 hjj
          go_wp2_with fail
          obtain ⟨f0, f1, f2⟩ := HF.out _ hR gB
          refine bodyPost_ret (v := .tuple #[.agg #[.int .i64 0, .slice none 0 0], .int .i64 256]) ?_ rfl ⟨none, 0, by rw [q1, q2, q3]; rfl, .inl (by rw [q2]; rfl), (by rw [q2]; intro x h; cases h), by rw [HGc.out]; exact f2⟩
          simp [results, Try.results39, go_sem, f0, f1]
      · obtain ⟨q1, q2, q3⟩ := dec_no (decM_2 HG1.out (getN_no hN))
        have hx0 : ¬ x = 0 := by omega
        clear hN
        go_wp2_with fail
        obtain ⟨f0, f1, f2⟩ := HF.out _ hR gB
        refine bodyPost_ret (v := .tuple #[.agg #[.int .i64 0, .slice none 0 0], .int .i64 256]) ?_ rfl ⟨none, 0, by rw [q1, q2, q3]; rfl, .inl (by rw [q2]; rfl), (by rw [q2]; intro x h; cases h), by rw [HGc.out]; exact f2⟩
        simp [results, Try.results39, go_sem, f0, f1]
    · obtain ⟨q1, q2, q3⟩ := dec_no (decM_1 (getN_big hE hn1))
      have hn1I : (1048576 : Int) < (n : Int) := by omega
      simp only [Nat.zero_add]
      clear hE hv hn
      go_wp2_with fail
      obtain ⟨f0, f1, f2⟩ := HF.out _ hR gB
      refine bodyPost_ret (v := .tuple #[.agg #[.int .i64 0, .slice none 0 0], .int .i64 256]) ?_ rfl ⟨none, 0, by rw [q1, q2, q3]; rfl, .inl (by rw [q2]; rfl), (by rw [q2]; intro x h; cases h), by rw [HGc.out]; exact f2⟩
      simp [results, Try.results39, go_sem, f0, f1]
  · obtain ⟨q1, q2, q3⟩ := dec_no (decM_1 (getN_no hN))
    have hx0 : ¬ x = 0 := by omega
    clear hN
    go_wp2_with fail
    obtain ⟨f0, f1, f2⟩ := HF.out _ hR gB
    refine bodyPost_ret (v := .tuple #[.agg #[.int .i64 0, .slice none 0 0], .int .i64 256]) ?_ rfl ⟨none, 0, by rw [q1, q2, q3]; rfl, .inl (by rw [q2]; rfl), (by rw [q2]; intro x h; cases h), by rw [HGc.out]; exact f2⟩
    simp [results, Try.results39, go_sem, f0, f1]
end
end Go.Proofs.Ytnjhipnfhapngaa
