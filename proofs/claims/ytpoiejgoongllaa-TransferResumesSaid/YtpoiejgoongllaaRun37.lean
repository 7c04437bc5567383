/-
  transfer.Run.
-/
import Derived.Test.YtpoiejgoongllaaRun37d
namespace Go.Proofs.Ytpoiejgoongllaa
section
set_option linter.unusedVariables false
set_option linter.unusedSimpArgs false
set_option linter.unnecessarySimpa false
open Go.RowKit
attribute [local go_sem ↓] Go.wp_at_zero Go.wp_at_succ

def RunRes (n : Nat) (ids : List IdZ) (hs snd : List ChZ) (rounds : Int) (fs : List (List FtZ)) (w : World) (e : Ending) (w' : World) : Prop :=
  Grew w w' ∧ if chkM (n : Int) ids = 0 then ∃ (k : Nat) (A : Option Addr) (c : Nat), Rounds snd fs (recvR n ids hs) rounds k ∧
      e = .returned (.tuple #[.slice A (runZ (rcvAt snd fs (recvR n ids hs) k)).length c, .bool (decide ((rcvAt snd fs (recvR n ids hs) k).miss = [])), .int .i64 k]) ∧
      w'.ownsRow w.heap.size 5 1 (.slice A (runZ (rcvAt snd fs (recvR n ids hs) k)).length c) (runZ (rcvAt snd fs (recvR n ids hs) k)).length ((runZ (rcvAt snd fs (recvR n ids hs) k)).map (.int .u8))
    else e = .returned (.tuple #[.slice none 0 0, .bool false, .int .i64 0])
set_option maxRecDepth 100000 in
set_option maxHeartbeats 4000000 in
theorem run37_any (n : Nat) (Ai : Option Addr) (ci : Nat) (ids : List IdZ) (Ah : Option Addr) (ch : Nat) (hs : List ChZ) (As : Option Addr) (sc : Nat) (snd : List ChZ) (rounds : Int) (AF : Option Addr) (fc : Nat) (fl : List Fts) (w : World)
    (hI : RunIn w Ai ids Ah hs As snd AF fl) (hO : RunOk ids hs snd fl) (hr1 : -9223372036854775808 ≤ rounds) (hr2 : rounds ≤ 9223372036854775807) :
    Calls Try.prog 17 #[.agg #[.int .i64 n, .slice Ai ids.length ci], .slice Ah hs.length ch, .slice As snd.length sc, .int .i64 rounds, .slice AF fl.length fc] w (RunRes n ids hs snd rounds (fl.map Fts.fs) w) := by
  have HIn := Lib.hid hI
  have HO := Lib.hid hO
  clear hI hO
  have g0 := grew_alloc w (.cells #[.int .i64 n, .slice Ai ids.length ci] 33)
  have kM := Blk.new w 33 #[.int .i64 n, .slice Ai ids.length ci]
  have s1 : (w.alloc (.cells #[.int .i64 n, .slice Ai ids.length ci] 33)).heap.size = w.heap.size + 1 := by simp
  have g1 := grew_alloc (w.alloc (.cells #[.int .i64 n, .slice Ai ids.length ci] 33)) (.cells #[.slice AF fl.length fc] 36)
  have kF := Blk.new (w.alloc (.cells #[.int .i64 n, .slice Ai ids.length ci] 33)) 36 #[.slice AF fl.length fc]
  rw [s1] at kF
  replace kM := kM.of g1
  have m0 := (kM.cell 0).trans (show _ = some (.int .i64 n) from rfl)
  have m1 := (kM.cell 1).trans (show _ = some (.slice Ai ids.length ci) from rfl)
  have hg1 := Grew.trans g0 g1
  have hsz1 : ((w.alloc (.cells #[.int .i64 n, .slice Ai ids.length ci] 33)).alloc (.cells #[.slice AF fl.length fc] 36)).heap.size = w.heap.size + 2 := by simp
  have hI1 := HIn.out.up hg1
  have HR := Lib.hid (receive37_any n Ai ci ids Ah ch hs _ hI1.rids HO.out.oids HO.out.nids hI1.rhs hI1.rhin HO.out.ohs (by have := HO.out.nhs; omega))
  clear g0 g1 s1 kM hI1
  go_enter Try.func17, Try.ntmps17
  go_wp2_with fail
  refine HR.out.mono ?_
  clear HR m0 m1
  rintro e w2 ⟨hg2, hif⟩
  replace kF := kF.of hg2
  have hgw := hg1.trans hg2
  have hs2 := hg2.size
  rw [hsz1] at hif hs2
  generalize w.alloc (.cells #[.int .i64 n, .slice Ai ids.length ci] 33) = wq at *
  clear hg1 hg2 hsz1
  by_cases hchk : chkM (n : Int) ids = 0
  · rw [if_pos hchk] at hif
    obtain ⟨g, L0, rfl, hR0⟩ := hif
    have HChk := Lib.hid hchk
    clear hchk
    have gA := grew_alloc w2 (.cells #[.pointer (some ⟨g, 0, none⟩)] 45)
    have kR := Blk.new w2 45 #[.pointer (some ⟨g, 0, none⟩)]
    have z1 : (w2.alloc (.cells #[.pointer (some ⟨g, 0, none⟩)] 45)).heap.size = w2.heap.size + 1 := by simp
    generalize hw3 : w2.alloc (.cells #[.pointer (some ⟨g, 0, none⟩)] 45) = w3 at *
    have gB := grew_alloc w3 (.map #[] 0)
    have hM := MapIs.made w3
    have z2 : (w3.alloc (.map #[] 0)).heap.size = w2.heap.size + 1 + 1 := by simp [z1]
    generalize hw4 : w3.alloc (.map #[] 0) = w4 at *
    have gC := grew_alloc w4 (.cells #[.map (some (w2.heap.size + 1))] 94)
    have kC := Blk.new w4 94 #[.map (some (w2.heap.size + 1))]
    rw [z1] at hM
    rw [z2] at kC
    have z3 : (w4.alloc (.cells #[.map (some (w2.heap.size + 1))] 94)).heap.size = w2.heap.size + 1 + 1 + 1 := by simp [z2]
    have hR4 := hR0.of (gA.trans (gB.trans gC))
    have kR4 := kR.of (gB.trans gC)
    have hM4 := hM.of gC
    have kF4 := kF.of (gA.trans (gB.trans gC))
    have hg4 : Grew w (w4.alloc (.cells #[.map (some (w2.heap.size + 1))] 94)) := hgw.trans (gA.trans (gB.trans gC))
    subst hw4
    subst hw3
    have hmk := @run_makeMap Try.prog
    have hnb0 : ¬ L0.F (recvR n ids hs) g (w2.heap.size + 1) := fun h => by have := hR0.Flt _ h; omega
    have HNb0 := Lib.hid hnb0
    have HR4 := Lib.hid hR4
    have HKR4 := Lib.hid kR4
    have HKF4 := Lib.hid kF4
    have HG4 := Lib.hid hg4
    have HKC := Lib.hid kC
    have HM4 := Lib.hid hM4
    clear gA kR gB hM gC z1 z2 kC hR0 kF hgw hnb0 hR4 kR4 kF4 hg4 hM4
    go_wp2_with fail
    generalize (((w2.alloc (.cells #[.pointer (some ⟨g, 0, none⟩)] 45)).alloc (.map #[] 0)).alloc (.cells #[.map (some (w2.heap.size + 1))] 94)) = w5 at *
    generalize hb2 : w2.heap.size = b2 at *
    go_loopw [39] (fun v wr => ∃ k : Nat, k ≤ snd.length ∧ v = .int .i64 k ∧ MapIs wr (b2 + 1) k (sndM (snd.take k)) ∧ Ch (At (b2 + 1)) w5 wr) (fun v _ => snd.length - (intOf v).toNat)
    case atStart => exact ⟨0, Nat.zero_le _, rfl, HM4.out.congr (fun x => rfl), Ch.refl _ _⟩
    case round =>
      obtain ⟨k, hk, rfl, hM, hch⟩ := hrel
      by_cases hlt : k < snd.length
      · have hG5 : Grew w wr := Below.trans (B := w.heap.size) HG4.out (hch.below HG4.out.size (fun q hq => by have h2 : q = b2 + 1 := hq; omega))
        obtain ⟨ad, hA, hbl, d0, d1, d2⟩ := chs_at (HIn.out.up hG5).rsnd hlt
        have hnew := Lib.hid (fun h x => sndM_new hlt h x)
        have hold := Lib.hid (fun h x => sndM_old hlt h x)
        have hwx := (HO.out.osnd _ (List.getElem_mem hlt)).1
        generalize snd[k] = cc at *
        obtain ⟨⟨j1, j2⟩, bA, bc, zs⟩ := cc
        simp only at d0 d1 d2 hwx
        have ga := grew_alloc wr (.cells #[.int .u64 j1, .int .i64 j2, .slice bA zs.length bc] 64)
        have kB := Blk.new wr 64 #[.int .u64 j1, .int .i64 j2, .slice bA zs.length bc]
        have hM5 := hM.of ga
        have hc5 := hch.next ga
        have hC5 := (HKC.out.ch hch (fun h => by have h2 : b2 + 1 + 1 = b2 + 1 := h; omega)).of ga
        have m0 := (hC5.cell 0).trans (show _ = some (.map (some (b2 + 1))) from rfl)
        have e0 := (kB.cell 0).trans (show _ = some (.int .u64 j1) from rfl)
        have e1 := (kB.cell 1).trans (show _ = some (.int .i64 j2) from rfl)
        have e2 := (kB.cell 2).trans (show _ = some (.slice bA zs.length bc) from rfl)
        have hl := hM5.look' (xs := j1) (xn := j2) hwx Try.underlying94 (z := .slice none 0 0) (by kernel_rfl)
        have HB := Lib.hid (fun w' hg => hc5.trans (w2 := w') hg)
        have hnl := HO.out.nsnd
        clear ga kB hC5 hM hch hG5
        subst hA
        cases hs0 : sndM (snd.take k) (j1, j2) with
        | none =>
          obtain ⟨w6, hup, hM6, hc6⟩ := hM5.store (x := (j1, j2)) hwx Try.underlying94 (by unfold maxLen; omega) (.slice bA zs.length bc)
          simp only at hup
          rw [hs0] at hl
          have HM6 := Lib.hid (hM6.congr (fun x => hnew.out hs0 x))
          have HC6 := Lib.hid (HB.out w6 hc6)
          clear hM6 hc6 hM5 hs0 hc5
          go_wp2_with fail
          go_roundw
          case rel => exact ⟨k + 1, by omega, by go_num, HM6.out, HC6.out⟩
          case measure => simp [intOf]; omega
        | some v =>
          have HM6 := Lib.hid ((hM5.mono (Nat.le_succ k)).congr (fun x => hold.out (by rw [hs0]; rfl) x))
          have HC6 := Lib.hid hc5
          rw [hs0] at hl
          clear hM5 hs0 hc5
          go_wp2_with fail
          go_roundw
          case rel => exact ⟨k + 1, by omega, by go_num, HM6.out, HC6.out⟩
          case measure => simp [intOf]; omega
      · obtain rfl : k = snd.length := by omega
        rw [List.take_length] at hM
        have hsf := @run_store_func Try.prog wr
        have hG5 : Grew w wr := Below.trans (B := w.heap.size) HG4.out (hch.below HG4.out.size (fun q hq => by have h2 : q = b2 + 1 := hq; omega))
        have hR5 : RcvIs wr (w.heap.size + 2) g hs.length L0 (recvR n ids hs) := HR4.out.chM hch HM4.out (fun h => HNb0.out h)
        have hkR5 := HKR4.out.ch hch (fun h => by have h2 : b2 = b2 + 1 := h; omega)
        have hkF5 := HKF4.out.ch hch (fun h => by have h2 : w.heap.size + 1 = b2 + 1 := h; omega)
        have hkC5 := HKC.out.ch hch (fun h => by have h2 : b2 + 1 + 1 = b2 + 1 := h; omega)
        have hsz5 := hch.size
        generalize hc0 : wr.heap.size = c0 at *
        have gA := grew_alloc wr (.cells #[.func (Fn.func 47) #[] #[.pointer (some ⟨b2 + 1 + 1, 0, none⟩)]] 96)
        have kS := Blk.new wr 96 #[.func (Fn.func 47) #[] #[.pointer (some ⟨b2 + 1 + 1, 0, none⟩)]]
        have y1 : (wr.alloc (.cells #[.func (Fn.func 47) #[] #[.pointer (some ⟨b2 + 1 + 1, 0, none⟩)]] 96)).heap.size = c0 + 1 := by simp [hc0]
        have gB := grew_alloc (wr.alloc (.cells #[.func (Fn.func 47) #[] #[.pointer (some ⟨b2 + 1 + 1, 0, none⟩)]] 96)) (.cells #[.int .i64 0] 3)
        have kN := Blk.new (wr.alloc (.cells #[.func (Fn.func 47) #[] #[.pointer (some ⟨b2 + 1 + 1, 0, none⟩)]] 96)) 3 #[.int .i64 0]
        have y2 : ((wr.alloc (.cells #[.func (Fn.func 47) #[] #[.pointer (some ⟨b2 + 1 + 1, 0, none⟩)]] 96)).alloc (.cells #[.int .i64 0] 3)).heap.size = c0 + 1 + 1 := by simp [hc0]
        have gC := grew_alloc ((wr.alloc (.cells #[.func (Fn.func 47) #[] #[.pointer (some ⟨b2 + 1 + 1, 0, none⟩)]] 96)).alloc (.cells #[.int .i64 0] 3)) (.cells #[.slice none 0 0] 49)
        have kP := Blk.new ((wr.alloc (.cells #[.func (Fn.func 47) #[] #[.pointer (some ⟨b2 + 1 + 1, 0, none⟩)]] 96)).alloc (.cells #[.int .i64 0] 3)) 49 #[.slice none 0 0]
        have y3 : (((wr.alloc (.cells #[.func (Fn.func 47) #[] #[.pointer (some ⟨b2 + 1 + 1, 0, none⟩)]] 96)).alloc (.cells #[.int .i64 0] 3)).alloc (.cells #[.slice none 0 0] 49)).heap.size = c0 + 1 + 1 + 1 := by simp [hc0]
        have gD := grew_alloc (((wr.alloc (.cells #[.func (Fn.func 47) #[] #[.pointer (some ⟨b2 + 1 + 1, 0, none⟩)]] 96)).alloc (.cells #[.int .i64 0] 3)).alloc (.cells #[.slice none 0 0] 49)) (.cells #[.func (Fn.func 49) #[] #[.pointer (some ⟨b2, 0, none⟩), .pointer (some ⟨c0 + 1 + 1, 0, none⟩)], .func (Fn.func 50) #[] #[.pointer (some ⟨c0 + 1 + 1, 0, none⟩), .pointer (some ⟨w.heap.size + 1, 0, none⟩), .pointer (some ⟨c0 + 1, 0, none⟩)], .func (Fn.func 52) #[] #[.pointer (some ⟨c0 + 1 + 1, 0, none⟩), .pointer (some ⟨c0, 0, none⟩)], .func (Fn.func 54) #[] #[.pointer (some ⟨c0 + 1 + 1, 0, none⟩), .pointer (some ⟨w.heap.size + 1, 0, none⟩), .pointer (some ⟨c0 + 1, 0, none⟩)], .func (Fn.func 55) #[] #[.pointer (some ⟨b2, 0, none⟩), .pointer (some ⟨c0 + 1 + 1, 0, none⟩)]] 1)
        have kT := Blk.new (((wr.alloc (.cells #[.func (Fn.func 47) #[] #[.pointer (some ⟨b2 + 1 + 1, 0, none⟩)]] 96)).alloc (.cells #[.int .i64 0] 3)).alloc (.cells #[.slice none 0 0] 49)) 1 #[.func (Fn.func 49) #[] #[.pointer (some ⟨b2, 0, none⟩), .pointer (some ⟨c0 + 1 + 1, 0, none⟩)], .func (Fn.func 50) #[] #[.pointer (some ⟨c0 + 1 + 1, 0, none⟩), .pointer (some ⟨w.heap.size + 1, 0, none⟩), .pointer (some ⟨c0 + 1, 0, none⟩)], .func (Fn.func 52) #[] #[.pointer (some ⟨c0 + 1 + 1, 0, none⟩), .pointer (some ⟨c0, 0, none⟩)], .func (Fn.func 54) #[] #[.pointer (some ⟨c0 + 1 + 1, 0, none⟩), .pointer (some ⟨w.heap.size + 1, 0, none⟩), .pointer (some ⟨c0 + 1, 0, none⟩)], .func (Fn.func 55) #[] #[.pointer (some ⟨b2, 0, none⟩), .pointer (some ⟨c0 + 1 + 1, 0, none⟩)]]
        rw [hc0] at kS
        rw [y1] at kN
        rw [y2] at kP
        rw [y3] at kT
        have gCD := gC.trans gD
        have gBD := gB.trans gCD
        have gAD := gA.trans gBD
        have HP : Hid (RunIs _ w.heap.size ⟨b2, w.heap.size + 1, c0 + 1, c0, b2 + 1 + 1, c0 + 1 + 1, c0 + 1 + 1 + 1, g, b2 + 1, snd.length⟩ snd (.slice AF fl.length fc) 0) := Lib.hid
          ⟨hkR5.of gAD, hkF5.of gAD, kN.of gCD, kS.of gBD, hkC5.of gAD, hM.of gAD, kT, by show b2 + 1 ≠ c0 + 1 + 1; omega⟩
        have HPk := Lib.hid (kP.of gD)
        have HR := Lib.hid (hR5.of gAD)
        have HGw := Lib.hid (hG5.trans gAD)
        clear gA kS y1 gB kN y2 gC kP y3 gD kT gCD gBD gAD hkR5 hkF5 hkC5 hR5 hG5 hch hM
        go_wp2_with fail
        generalize (((wr.alloc (.cells #[.func (Fn.func 47) #[] #[.pointer (some ⟨b2 + 1 + 1, 0, none⟩)]] 96)).alloc (.cells #[.int .i64 0] 3)).alloc (.cells #[.slice none 0 0] 49)).alloc (.cells #[.func (Fn.func 49) #[] #[.pointer (some ⟨b2, 0, none⟩), .pointer (some ⟨c0 + 1 + 1, 0, none⟩)], .func (Fn.func 50) #[] #[.pointer (some ⟨c0 + 1 + 1, 0, none⟩), .pointer (some ⟨w.heap.size + 1, 0, none⟩), .pointer (some ⟨c0 + 1, 0, none⟩)], .func (Fn.func 52) #[] #[.pointer (some ⟨c0 + 1 + 1, 0, none⟩), .pointer (some ⟨c0, 0, none⟩)], .func (Fn.func 54) #[] #[.pointer (some ⟨c0 + 1 + 1, 0, none⟩), .pointer (some ⟨w.heap.size + 1, 0, none⟩), .pointer (some ⟨c0 + 1, 0, none⟩)], .func (Fn.func 55) #[] #[.pointer (some ⟨b2, 0, none⟩), .pointer (some ⟨c0 + 1 + 1, 0, none⟩)]] 1) = w6 at *
        have HS0 := Lib.hid (show RcOk (recvR n ids hs) from recvR_ok HChk.out HO.out.oids (fun c hc => (HO.out.ohs c hc).2))
        have hwc : w.heap.size ≤ c0 := by have := HG4.out.size; omega
        clear hsf hc0
        go_loopw [] (fun wx => OutSt w (w.heap.size + 2) ⟨b2, w.heap.size + 1, c0 + 1, c0, b2 + 1 + 1, c0 + 1 + 1, c0 + 1 + 1 + 1, g, b2 + 1, snd.length⟩ snd (.slice AF fl.length fc) (fl.map Fts.fs) (recvR n ids hs) rounds hs.length wx) (fun wx => 1024 - cellInt wx ⟨c0 + 1, 0, none⟩)
        case atStart => exact ⟨0, hs.length, L0, _, _, Nat.zero_le _, fun i hi => (by omega), rfl, HS0.out, HP.out, HPk.out, HR.out, HNb0.out, by omega, HGw.out⟩
        case round =>
          clear HP HPk HR HGw HS0
          obtain ⟨j, M, L, r, v, hj, hJ, hRr, hOK, hP, hPk, hR, hNb, hM, hb⟩ := hrel
          have HJ := Lib.hid hJ
          have HRr := Lib.hid hRr
          have OK := Lib.hid hOK
          have HNb := Lib.hid hNb
          clear hJ hRr hOK hNb
          have hn0 := (hP.nb.cell 0).trans (show _ = some (.int .i64 j) from rfl)
          have hr0 := (hP.rb.cell 0).trans (show _ = some (.pointer (some ⟨g, 0, none⟩)) from rfl)
          obtain ⟨_, _, _, _, hc4, _⟩ := hR.cells
          have hml := OK.out.len.2.2.1
          have HPI := Lib.hid hP
          have HPK := Lib.hid hPk
          have HRI := Lib.hid hR
          have HBB := Lib.hid hb
          have hcin := cellInt_of hn0
          have HCI := Lib.hid hcin
          clear hP hPk hR hb hcin
          by_cases hm0 : 0 < r.miss.length
          · have hm0I : (0 : Int) < (r.miss.length : Int) := by omega
            by_cases hjr : (j : Int) < rounds
            · by_cases hj4 : j < 1024
              · have hj4I : (j : Int) < 1024 := by omega
                have HF1 : Hid ((ofF (fl.map Fts.fs) (2 * j)).length ≤ 1000) := Lib.hid (ofF_mem (fs := (fl.map Fts.fs)) (Q := fun f => f.length ≤ 1000) (Nat.zero_le _) (fun f hf => by
                  obtain ⟨q, hq, rfl⟩ := List.mem_map.1 hf
                  exact (HO.out.ofs q hq).2))
                have HF2 : Hid ((ofF (fl.map Fts.fs) (2 * j + 1)).length ≤ 1000) := Lib.hid (ofF_mem (fs := (fl.map Fts.fs)) (Q := fun f => f.length ≤ 1000) (Nat.zero_le _) (fun f hf => by
                  obtain ⟨q, hq, rfl⟩ := List.mem_map.1 hf
                  exact (HO.out.ofs q hq).2))
                have hnh := HO.out.nhs
                have hSt : StepSt w (w.heap.size + 2) ⟨b2, w.heap.size + 1, c0 + 1, c0, b2 + 1 + 1, c0 + 1 + 1, c0 + 1 + 1 + 1, g, b2 + 1, snd.length⟩ snd (.slice AF fl.length fc) j M L r (ofF (fl.map Fts.fs) (2 * j)) (ofF (fl.map Fts.fs) (2 * j + 1)) 0 wr :=
                  ⟨HPI.out, HBB.out, ⟨by show w.heap.size ≤ c0 + 1 + 1; omega, by omega, by have h1 : g < wr.heap.size := HRI.out.Flt g (.inl rfl); have h2 : w.heap.size + 2 ≤ g := HRI.out.lo.1; omega, HPI.out.mp.lt⟩, .inl ⟨rfl, ⟨v, HPK.out⟩, HRI.out, HNb.out⟩⟩
                have HSt := Lib.hid hSt
                clear hSt
                go_wp2_with fail
                go_loopw [82] (fun u wy => ∃ i : Nat, i ≤ 5 ∧ u = .int .i64 i ∧ StepSt w (w.heap.size + 2) ⟨b2, w.heap.size + 1, c0 + 1, c0, b2 + 1 + 1, c0 + 1 + 1, c0 + 1 + 1 + 1, g, b2 + 1, snd.length⟩ snd (.slice AF fl.length fc) j M L r (ofF (fl.map Fts.fs) (2 * j)) (ofF (fl.map Fts.fs) (2 * j + 1)) i wy) (fun u _ => 5 - (intOf u).toNat)
                case atStart => exact ⟨0, by omega, rfl, HSt.out⟩
                case round =>
                  clear HSt hn0 hr0 hc4
                  obtain ⟨i, hi, rfl, hS⟩ := hrel
                  have HS := Lib.hid hS
                  clear hS
                  have hi6 : i = 0 ∨ i = 1 ∨ i = 2 ∨ i = 3 ∨ i = 4 ∨ i = 5 := by omega
                  rcases hi6 with rfl | rfl | rfl | rfl | rfl | rfl
                  · have tq := (HS.out.is.tb.cell 0).trans (show _ = some (.func (Fn.func 49) #[] #[.pointer (some ⟨b2, 0, none⟩), .pointer (some ⟨c0 + 1 + 1, 0, none⟩)]) from rfl)
                    have HC := Lib.hid (step0 HS.out OK.out)
                    go_wp2_with fail
                    refine HC.out.mono ?_
                    clear HC tq
                    rintro e wz ⟨rfl, hS⟩
                    have HS2 := Lib.hid hS
                    clear hS HS
                    go_wp2_with fail
                    go_roundw
                    case rel => exact ⟨1, by omega, by go_num, HS2.out⟩
                    case measure => simp [intOf]
                  · have tq := (HS.out.is.tb.cell 1).trans (show _ = some (.func (Fn.func 50) #[] #[.pointer (some ⟨c0 + 1 + 1, 0, none⟩), .pointer (some ⟨w.heap.size + 1, 0, none⟩), .pointer (some ⟨c0 + 1, 0, none⟩)]) from rfl)
                    have HC := Lib.hid (step1 HS.out OK.out HIn.out HO.out hj)
                    go_wp2_with fail
                    refine HC.out.mono ?_
                    clear HC tq
                    rintro e wz ⟨rfl, hS⟩
                    have HS2 := Lib.hid hS
                    clear hS HS
                    go_wp2_with fail
                    go_roundw
                    case rel => exact ⟨2, by omega, by go_num, HS2.out⟩
                    case measure => simp [intOf]
                  · have tq := (HS.out.is.tb.cell 2).trans (show _ = some (.func (Fn.func 52) #[] #[.pointer (some ⟨c0 + 1 + 1, 0, none⟩), .pointer (some ⟨c0, 0, none⟩)]) from rfl)
                    have HC := Lib.hid (step2 HS.out OK.out HIn.out HO.out HF1.out HF2.out)
                    go_wp2_with fail
                    refine HC.out.mono ?_
                    clear HC tq
                    rintro e wz ⟨rfl, hS⟩
                    have HS2 := Lib.hid hS
                    clear hS HS
                    go_wp2_with fail
                    go_roundw
                    case rel => exact ⟨3, by omega, by go_num, HS2.out⟩
                    case measure => simp [intOf]
                  · have tq := (HS.out.is.tb.cell 3).trans (show _ = some (.func (Fn.func 54) #[] #[.pointer (some ⟨c0 + 1 + 1, 0, none⟩), .pointer (some ⟨w.heap.size + 1, 0, none⟩), .pointer (some ⟨c0 + 1, 0, none⟩)]) from rfl)
                    have HC := Lib.hid (step3 HS.out OK.out HIn.out HO.out hj HF1.out)
                    go_wp2_with fail
                    refine HC.out.mono ?_
                    clear HC tq
                    rintro e wz ⟨rfl, hS⟩
                    have HS2 := Lib.hid hS
                    clear hS HS
                    go_wp2_with fail
                    go_roundw
                    case rel => exact ⟨4, by omega, by go_num, HS2.out⟩
                    case measure => simp [intOf]
                  · have tq := (HS.out.is.tb.cell 4).trans (show _ = some (.func (Fn.func 55) #[] #[.pointer (some ⟨b2, 0, none⟩), .pointer (some ⟨c0 + 1 + 1, 0, none⟩)]) from rfl)
                    have HC := Lib.hid (step4 HS.out OK.out HO.out HF1.out HF2.out (by omega))
                    go_wp2_with fail
                    refine HC.out.mono ?_
                    clear HC tq
                    rintro e wz ⟨rfl, hS⟩
                    have HS2 := Lib.hid hS
                    clear hS HS
                    go_wp2_with fail
                    go_roundw
                    case rel => exact ⟨5, by omega, by go_num, HS2.out⟩
                    case measure => simp [intOf]
                  · have hnb := HS.out.is.nb
                    have hn0 := (hnb.cell 0).trans (show _ = some (.int .i64 j) from rfl)
                    have hz0 := hnb.frozen 0
                    have hwj : IntKind.i64.wrap ((j : Int) + 1) = (j : Int) + 1 := Go.IntWalk.i64_in _ (by omega)
                    have HN := Lib.hid (OutSt.next (m0 := hs.length) HS.out hj4 HJ.out HRr.out OK.out HO.out.osnd (fun e => by rw [e] at hm0; simp at hm0) hjr (by omega) (by show w.heap.size ≤ c0 + 1; omega))
                    have HME := Lib.hid (cellInt_next hnb)
                    clear hnb HS
                    go_wp2_with fail
                    go_roundw
                    case rel => exact HN.out
                    case measure => rw [HME.out, HCI.out]; omega
              · obtain rfl : j = 1024 := by omega
                have HMN : Hid (¬ r.miss = []) := Lib.hid (fun e => by rw [e] at hm0; simp at hm0)
                have HRd : Hid (Rounds snd (fl.map Fts.fs) (recvR n ids hs) rounds 1024) := Lib.hid ⟨Nat.le_refl _, HJ.out, .inr (.inr rfl)⟩
                have HD := Lib.hid (done37_no _ HRI.out hm0)
                go_wp2_with fail
                refine HD.out.mono ?_
                clear HD hn0 hr0 hc4
                rintro e wd ⟨rfl, hg⟩
                have n0 := ((HPI.out.nb.of hg).cell 0).trans (show _ = some (.int .i64 (1024 : Nat)) from rfl)
                have HEX := Lib.hid (fun W (hW : Grew wd W) => (show RunRes n ids hs snd rounds (fl.map Fts.fs) w (.returned (.tuple #[.slice none 0 0, .bool false, .int .i64 1024])) W from ⟨Below.trans (B := w.heap.size) HBB.out ((Grew.trans hg hW).mono HBB.out.size), by
                  rw [if_pos HChk.out]
                  refine ⟨1024, none, 0, HRd.out, ?_, ?_⟩
                  · rw [← HRr.out]
                    rw [show runZ r = [] from if_neg HMN.out, decide_eq_false HMN.out]
                    rfl
                  · rw [← HRr.out]
                    rw [show runZ r = [] from if_neg HMN.out]
                    exact World.ownsRow_nil _ _ _ _⟩))
                clear hg
                go_wp2_with fail
                go_quiet (fail)
                go_wp2_with fail
                refine bodyPost_ret (v := .tuple #[.slice none 0 0, .bool false, .int .i64 1024]) ?_ rfl (HEX.out _ (grew_drawn ⟨_, rfl⟩))
                simp [results, Try.results17, go_sem]
            · have hjrI : rounds ≤ (j : Int) := by omega
              have HMN : Hid (¬ r.miss = []) := Lib.hid (fun e => by rw [e] at hm0; simp at hm0)
              have HRd : Hid (Rounds snd (fl.map Fts.fs) (recvR n ids hs) rounds j) := Lib.hid ⟨hj, HJ.out, .inr (.inl hjrI)⟩
              have HD := Lib.hid (done37_no _ HRI.out hm0)
              go_wp2_with fail
              refine HD.out.mono ?_
              clear HD hn0 hr0 hc4
              rintro e wd ⟨rfl, hg⟩
              have n0 := ((HPI.out.nb.of hg).cell 0).trans (show _ = some (.int .i64 j) from rfl)
              have HEX := Lib.hid (fun W (hW : Grew wd W) => (show RunRes n ids hs snd rounds (fl.map Fts.fs) w (.returned (.tuple #[.slice none 0 0, .bool false, .int .i64 j])) W from ⟨Below.trans (B := w.heap.size) HBB.out ((Grew.trans hg hW).mono HBB.out.size), by
                rw [if_pos HChk.out]
                refine ⟨j, none, 0, HRd.out, ?_, ?_⟩
                · rw [← HRr.out]
                  rw [show runZ r = [] from if_neg HMN.out, decide_eq_false HMN.out]
                  rfl
                · rw [← HRr.out]
                  rw [show runZ r = [] from if_neg HMN.out]
                  exact World.ownsRow_nil _ _ _ _⟩))
              clear hg
              go_wp2_with fail
              go_quiet (fail)
              go_wp2_with fail
              refine bodyPost_ret (v := .tuple #[.slice none 0 0, .bool false, .int .i64 j]) ?_ rfl (HEX.out _ (grew_drawn ⟨_, rfl⟩))
              simp [results, Try.results17, go_sem]
          · have hme : r.miss = [] := List.eq_nil_of_length_eq_zero (by omega)
            have hm0I : ¬ (0 : Int) < (r.miss.length : Int) := by omega
            have HRd : Hid (Rounds snd (fl.map Fts.fs) (recvR n ids hs) rounds j) := Lib.hid ⟨hj, HJ.out, .inl (by rw [← HRr.out]; exact hme)⟩
            have HD := Lib.hid (done37_yes _ HRI.out OK.out hme)
            have HME := Lib.hid hme
            clear hme
            go_wp2_with fail
            refine HD.out.mono ?_
            clear HD hn0 hr0 hc4
            rintro e wd ⟨A, c, rfl, hown, hg⟩
            have n0 := ((HPI.out.nb.of hg).cell 0).trans (show _ = some (.int .i64 j) from rfl)
            have HEX := Lib.hid (fun W (hW : Grew wd W) => (show RunRes n ids hs snd rounds (fl.map Fts.fs) w (.returned (.tuple #[.slice A (doneT r r.ids).length c, .bool true, .int .i64 j])) W from ⟨Below.trans (B := w.heap.size) HBB.out ((Grew.trans hg hW).mono HBB.out.size), by
              rw [if_pos HChk.out]
              refine ⟨j, A, c, HRd.out, ?_, ?_⟩
              · rw [← HRr.out]
                rw [show runZ r = doneT r r.ids from if_pos HME.out, decide_eq_true HME.out]
              · rw [← HRr.out]
                rw [show runZ r = doneT r r.ids from if_pos HME.out]
                exact own_mono (own_below hown hW) HBB.out.size⟩))
            clear hg hown
            go_wp2_with fail
            go_quiet (fail)
            go_wp2_with fail
            refine bodyPost_ret (v := .tuple #[.slice A (doneT r r.ids).length c, .bool true, .int .i64 j]) ?_ rfl (HEX.out _ (grew_drawn ⟨_, rfl⟩))
            simp [results, Try.results17, go_sem]
  · rw [if_neg hchk] at hif
    subst hif
    have hne : ¬ chkM (n : Int) ids = 0 := hchk
    have hne' : (chkM (n : Int) ids == 0) = false := by simp [hchk]
    have HG : Hid (Grew w (w2.alloc (.cells #[.pointer none] 45))) := Lib.hid (hgw.trans (grew_alloc _ _))
    have HE := Lib.hid (show RunRes n ids hs snd rounds (fl.map Fts.fs) w (.returned (.tuple #[.slice none 0 0, .bool false, .int .i64 0])) (w2.alloc (.cells #[.pointer none] 45)) from ⟨HG.out, by rw [if_neg hchk]⟩)
    generalize chkM (n : Int) ids = ce at *
    clear kF hgw hs2
    go_wp2_with fail
    refine bodyPost_ret (v := .tuple #[.slice none 0 0, .bool false, .int .i64 0]) ?_ rfl HE.out
    simp [results, Try.results17, go_sem]
end
end Go.Proofs.Ytpoiejgoongllaa
