/-
  stockyardlaw37.known.
-/
import Derived.Test.YtpoiejgoongllaaSome37
namespace Go.Proofs.Ytpoiejgoongllaa
section
set_option linter.unusedVariables false
set_option linter.unusedSimpArgs false
set_option linter.unnecessarySimpa false
open Go.RowKit
attribute [local go_sem ↓] Go.wp_at_zero Go.wp_at_succ

theorem ansZ_len (f : Nat) (zs : List Int) : (ansZ f zs).length = min (zs.length - f) 1024 := by unfold ansZ; rw [List.length_take, List.length_drop]; omega
theorem ansZ_byt {zs : List Int} (h : Byt zs) (f : Nat) : Byt (ansZ f zs) := fun z hz => h z (List.mem_of_mem_drop (List.mem_of_mem_take hz))
theorem take_ans {zs : List Int} (f : Nat) : zs.take f ++ ansZ f zs = zs.take (f + 1024) := by
  unfold ansZ
  rw [← List.take_add]
def kz : List Int := fillZ 1500 1 3
theorem kz_len : kz.length = 1500 := fillZ_length ..
def rk0 : Rcv := recvR 1500 [idOf kz] []
def rk1 : Rcv := { rk0 with pref := updF rk0.pref (idOf kz) (kz.take 1024) }
def rk2 : Rcv := { rk0 with pref := updF rk1.pref (idOf kz) [], comp := updF rk0.comp (idOf kz) (some kz), miss := rk0.miss.erase (idOf kz), recv := rk0.recv ++ [idOf kz] }
theorem rk0_miss : rk0.miss = [idOf kz] := by
  unfold rk0 recvR lackH
  have h : missL [] [idOf kz] = [idOf kz] := by unfold missL; simp
  rw [h]
  rfl
theorem rk2_miss : rk2.miss = [] := by unfold rk2; simp only; rw [rk0_miss]; simp
theorem kid2 : (idOf kz).2 = 1500 := by unfold idOf; simp only; rw [kz_len]; rfl
theorem kchk : chkM (1500 : Int) [idOf kz] = 0 := by
  have h1 : okId (idOf kz) = true := idOf_ok (by rw [kz_len]; omega) (by rw [kz_len]; omega)
  refine (chkM_ok (by simp) (by simp [h1]) ?_ ?_).symm
  · unfold sumN; simp [kid2]
  · unfold sumN; simp [kid2]
theorem rk0_ok : RcOk rk0 := recvR_ok kchk (fun x hx => by rw [List.mem_singleton] at hx; subst hx; exact idOf_wf (by rw [kz_len]; omega)) (fun c hc => by cases hc)
theorem rk_take0 : takeR rk0 2 (idOf kz) 0 (ansZ 0 kz) = (rk1, true) := by
  have hp : rk0.pref (idOf kz) = [] := rfl
  have ht : takesP rk0 2 (idOf kz) 0 (ansZ 0 kz) := ⟨rfl, by rw [ansZ_len, kz_len]; decide, by rw [ansZ_len, kz_len]; decide, by rw [rk0_miss]; simp, by rw [hp]; rfl, by rw [hp, ansZ_len, kz_len, kid2]; decide⟩
  rw [takeR_more ht (by rw [hp, List.nil_append, ansZ_len, kz_len, kid2]; decide)]
  have e : rk0.pref (idOf kz) ++ ansZ 0 kz = kz.take 1024 := by rw [hp, List.nil_append]; rfl
  rw [e]
  rfl
theorem rk_take1 : takeR rk1 2 (idOf kz) 1024 (ansZ 1024 kz) = (rk2, true) := by
  have hp : rk1.pref (idOf kz) = kz.take 1024 := by unfold rk1 updF; simp
  have hl : (kz.take 1024).length = 1024 := by rw [List.length_take, kz_len]; rfl
  have hm : idOf kz ∈ rk1.miss := by show idOf kz ∈ rk0.miss; rw [rk0_miss]; simp
  have ht : takesP rk1 2 (idOf kz) 1024 (ansZ 1024 kz) := ⟨rfl, by rw [ansZ_len, kz_len]; decide, by rw [ansZ_len, kz_len]; decide, hm, by rw [hp, hl]; rfl, by rw [hp, hl, ansZ_len, kz_len, kid2]; decide⟩
  have e : rk1.pref (idOf kz) ++ ansZ 1024 kz = kz := by
    rw [hp, take_ans, List.take_of_length_le (by rw [kz_len]; omega)]
  rw [takeR_done ht (by rw [e, kz_len, kid2]; decide) (by rw [e]), e]
  rfl
theorem rk1_ok : RcOk rk1 := by have := rk0_ok.take 2 (idOf kz) 0 (ansZ 0 kz) (ansZ_byt (fillZ_byt 1500 1 3) 0); rw [rk_take0] at this; exact this
theorem rk2_ok : RcOk rk2 := by have := rk1_ok.take 2 (idOf kz) 1024 (ansZ 1024 kz) (ansZ_byt (fillZ_byt 1500 1 3) 1024); rw [rk_take1] at this; exact this
theorem rk2_done : doneT rk2 rk2.ids = kz := by
  have h : rk2.ids = [idOf kz] := rfl
  rw [h]
  unfold doneT cmpB rk2 updF
  simp
theorem rk_ask0 : askP rk0 (askL rk0 9) = [⟨1, idOf kz, 0, ⟨none, 0, []⟩⟩] := by
  unfold askL askN askP
  rw [rk0_miss]
  rfl
theorem rk_ask1 : askP rk1 (askL rk1 9) = [⟨1, idOf kz, 1024, ⟨none, 0, []⟩⟩] := by
  have hm : rk1.miss = [idOf kz] := rk0_miss
  have hp : rk1.pref (idOf kz) = kz.take 1024 := by unfold rk1 updF; simp
  have hl : (kz.take 1024).length = 1024 := by rw [List.length_take, kz_len]; rfl
  unfold askL askN askP
  rw [hm]
  simp [hp, hl]
  rfl
def rkK : Nat → Rcv
  | 0 => rk0
  | 1 => rk1
  | _ => rk2
theorem rkK_ok : ∀ k, RcOk (rkK k)
  | 0 => rk0_ok
  | 1 => rk1_ok
  | _ + 2 => rk2_ok
theorem rkK_ask {k : Nat} (h : k < 2) : askP (rkK k) (askL (rkK k) 9) = [⟨1, idOf kz, (k : Int) * 1024, ⟨none, 0, []⟩⟩] := by
  have : k = 0 ∨ k = 1 := by omega
  rcases this with rfl | rfl
  · exact rk_ask0
  · exact rk_ask1
theorem rkK_take {k : Nat} (h : k < 2) : takeR (rkK k) 2 (idOf kz) ((k : Int) * 1024) (ansZ (k * 1024) kz) = (rkK (k + 1), true) := by
  have : k = 0 ∨ k = 1 := by omega
  rcases this with rfl | rfl
  · exact rk_take0
  · exact rk_take1
theorem srv_one {c : ChZ} {f : Int} (h0 : 0 ≤ f) (h1 : f < c.p.zs.length) : srvO [c] 1 c.id f = some (ansZ f.toNat c.p.zs) := by
  have : findC [c] c.id = some c.p.zs := by
    unfold findC
    rw [List.find?_cons_of_pos (by simp)]
    rfl
  unfold srvO
  rw [if_pos rfl, this]
  unfold ansO
  simp only [Option.bind_some]
  rw [if_neg (by omega)]

set_option maxRecDepth 100000 in
set_option maxHeartbeats 4000000 in
theorem known37_any (w : World) : Calls Try.prog 19 #[] w fun e w' => e = .returned (.bool true) ∧ Below w.heap.size w w' := by
  go_enter Try.func19, Try.ntmps19
  have HF := fill37_any 1500 1 3 w (by omega) (by omega) (by omega)
  go_wp2_with fail
  refine HF.mono ?_
  rintro e w1 ⟨A1, c1, rfl, hown1, hg1⟩
  clear HF
  rw [show fillZ 1500 1 3 = kz from rfl] at hown1
  have hcap1 := (own_cap hown1).1
  have HO := of_any A1 c1 w1.heap.size kz w1 (own_row hown1) (Nat.le_refl _) (fillZ_byt 1500 1 3) (by rw [kz_len]; omega)
  rw [kz_len] at HO
  go_wp2_with fail
  refine HO.mono ?_
  clear HO
  rintro e w2 ⟨rfl, hb⟩
  have hg2 : Grew w w2 := hg1.trans hb
  replace hown1 := own_below hown1 hb
  have HId := Lib.hid (show idOf kz = (sumZ kz, 1500) by unfold idOf; rw [kz_len]; rfl)
  have HKz := Lib.hid (rfl : sumZ kz = sumZ kz)
  generalize hsk : sumZ kz = sk at *
  have HSk := Lib.hid hsk
  clear hsk hb hg1 HKz
  have kC := Blk.new w2 64 #[.int .u64 sk, .int .i64 1500, .slice A1 1500 c1]
  have gC := grew_alloc w2 (.cells #[.int .u64 sk, .int .i64 1500, .slice A1 1500 c1] 64)
  have x0 := (kC.cell 0).trans (show _ = some (.int .u64 sk) from rfl)
  have x1 := (kC.cell 1).trans (show _ = some (.int .i64 1500) from rfl)
  have hg3 := hg2.trans gC
  replace hown1 := own_below hown1 gC
  have hgcl := kC.lt
  go_upto_region 3 with (fail)
  generalize w2.alloc (.cells #[.int .u64 sk, .int .i64 1500, .slice A1 1500 c1] 64) = w3 at *
  generalize w2.heap.size = gc at *
  clear gC hg2 w2
  have kI := Blk.new w3 53 #[.int .u64 sk, .int .i64 1500]
  have gI := grew_alloc w3 (.cells #[.int .u64 sk, .int .i64 1500] 53)
  have hrI := kI.row
  have HR := receive37_any 1500 (some ⟨w3.heap.size, 0, none⟩) 1 [idOf kz] none 0 [] (w3.alloc (.cells #[.int .u64 sk, .int .i64 1500] 53)) (by rw [HId.out]; exact hrI) (fun x hx => by rw [List.mem_singleton] at hx; subst hx; exact idOf_wf (by rw [kz_len]; omega)) (by simp) Row.nil (fun c hc => by cases hc) (fun c hc => by cases hc) (by simp)
  unfold RecvRes at HR
  simp only [List.length_singleton, List.length_nil] at HR
  rw [show ((1500 : Nat) : Int) = 1500 from rfl] at HR
  have hg4 := hg3.trans gI
  replace kC := kC.of gI
  replace hown1 := own_below hown1 gI
  clear hrI kI
  go_wp2_with fail
  refine HR.mono ?_
  clear HR x0 x1
  generalize w3.alloc (.cells #[.int .u64 sk, .int .i64 1500] 53) = w4 at *
  rintro e w5 ⟨hg5, hif⟩
  rw [if_pos kchk] at hif
  obtain ⟨g, L0, rfl, hI⟩ := hif
  have HI := Lib.hid (show RcvIs w5 w4.heap.size g 0 L0 (rkK 0) from hI)
  have HC5 := Lib.hid (kC.of hg5)
  have HO5 := Lib.hid (own_below hown1 hg5)
  have hg6 := hg4.trans hg5
  have hgc4 : gc < w4.heap.size := kC.lt
  have hwb : w.heap.size ≤ w4.heap.size := hg4.size
  have hb45 : w4.heap.size ≤ w5.heap.size := hg5.size
  have hml : ∀ i, (Value.slice A1 1500 c1).ownBlock = some i → i < w4.heap.size := fun i hi => (hown1.lt i hi).2
  have HMl := Lib.hid hml
  clear hI kC hown1 hg4 hg5 hg3 gI hgcl hml
  go_wp2_with fail
  generalize w4.heap.size = base at *
  go_loopw [5] (fun i wr => ∃ (k M : Nat) (L : RcL), k ≤ 2 ∧ i = .int .i64 k ∧ RcvIs wr base g M L (rkK k) ∧ M ≤ 4 * k ∧ Below base w5 wr) (fun i _ => 2 - (intOf i).toNat)
  case atStart => exact ⟨0, 0, L0, by omega, rfl, HI.out, Nat.le_refl _, Below.refl _ _⟩
  case round =>
    clear HI
    obtain ⟨k, M, L, hk, rfl, hI, hM, hb⟩ := hrel
    by_cases hlt : k < 2
    · have hltI : (k : Int) < 2 := by omega
      have HA := ask37_any 9 _ hI (rkK_ok k)
      rw [rkK_ask hlt] at HA
      simp only [List.length_singleton] at HA
      go_wp2_with fail
      refine HA.mono ?_
      clear HA
      rintro e w6 ⟨A6, c6, rfl, hown6, hg⟩
      have hbs := hb.size
      have hbA : Below base w5 w6 := Below.trans (B := base) hb (hg.mono (by omega))
      replace hI := hI.of hg
      have hB6 : base ≤ w6.heap.size := by have := hbA.size; omega
      obtain ⟨ga, rfl⟩ : ∃ ga, A6 = some ⟨ga, 0, none⟩ := by
        rcases hown6.2 with ⟨_, h⟩ | ⟨g, _, _, h, _⟩
        · cases h
        · injection h with h; exact ⟨g, h⟩
      have hkI : (k : Int) ≤ 1 := by omega
      have l0 : w6.cell? ⟨ga, 0, none⟩ = some (.int .i64 1) := hown6.cellAt 0 (by omega)
      have l1 : w6.cell? ⟨ga, 1, none⟩ = some (.int .u64 sk) := (hown6.cellAt 1 (by omega)).trans (by rw [HId.out]; rfl)
      have l2 : w6.cell? ⟨ga, 2, none⟩ = some (.int .i64 1500) := (hown6.cellAt 2 (by omega)).trans (by rw [HId.out]; rfl)
      have l3 : w6.cell? ⟨ga, 3, none⟩ = some (.int .i64 ((k : Int) * 1024)) := hown6.cellAt 3 (by omega)
      have l4 : w6.cell? ⟨ga, 4, none⟩ = some (.slice none 0 0) := hown6.cellAt 4 (by omega)
      have kC6 : Blk w6 gc 64 #[.int .u64 sk, .int .i64 1500, .slice A1 1500 c1] := by
        have h := HC5.out
        unfold Blk at h ⊢
        rw [hbA.block gc hgc4]
        exact h
      have hcA : Ch (fun i => base ≤ i) w5 w6 := ⟨hbA.os, hbA.tape, hbA.output, hbA.size, fun i hi hn => hbA.block i (by omega)⟩
      have hO6 := own_ch HO5.out hcA (fun i hi h => by have := HMl.out i hi; omega)
      have hcs : chsC [⟨idOf kz, ⟨A1, c1, kz⟩⟩] = [.int .u64 sk, .int .i64 1500, .slice A1 1500 c1] := by
        unfold chsC chC Part.v
        simp only [List.flatMap_cons, List.flatMap_nil, List.append_nil, kz_len]
        rw [HId.out]
      have HS := serve_any ⟨1, idOf kz, (k : Int) * 1024, ⟨none, 0, []⟩⟩ (some ⟨gc, 0, none⟩) 1 [⟨idOf kz, ⟨A1, c1, kz⟩⟩] w6 (by rw [hcs]; exact kC6.row) (fun c hc => by
        rw [List.mem_singleton] at hc; subst hc
        exact ⟨own_row hO6, by rw [kz_len]; exact hcap1, by rw [kz_len]; omega⟩) (by simp)
      simp only at HS
      rw [show srvO [⟨idOf kz, ⟨A1, c1, kz⟩⟩] 1 (idOf kz) ((k : Int) * 1024) = some (ansZ (k * 1024) kz) from by
        rw [srv_one (c := ⟨idOf kz, ⟨A1, c1, kz⟩⟩) (by omega) (by show _ < ((kz.length : Nat) : Int); rw [kz_len]; omega), show ((k : Int) * 1024).toNat = k * 1024 by omega]] at HS
      unfold AnsRes at HS
      simp only [List.length_singleton, HId.out, Part.v, List.length_nil] at HS
      have HBy := Lib.hid (ansZ_byt (fillZ_byt 1500 1 3) (k * 1024))
      have HTk := Lib.hid (rkK_take hlt)
      have hyl : (ansZ (k * 1024) kz).length ≤ 1024 := by rw [ansZ_len]; omega
      rw [show fillZ 1500 1 3 = kz from rfl] at HBy
      generalize ansZ (k * 1024) kz = ys at *
      have HS' := Lib.hid HS
      clear HS hown6 hcs kC6 hO6 hcA hb
      go_wp2_with fail
      refine HS'.out.mono ?_
      clear HS' l0 l1 l2 l3 l4
      rintro e w7 ⟨A7, c7, rfl, hown7, hg7⟩
      unfold pkV Part.v
      simp only
      have gB := grew_alloc w7 (.cells #[.int .i64 2, .int .u64 sk, .int .i64 1500, .int .i64 ((k : Int) * 1024), .slice A7 ys.length c7] 55)
      have kB := Blk.new w7 55 #[.int .i64 2, .int .u64 sk, .int .i64 1500, .int .i64 ((k : Int) * 1024), .slice A7 ys.length c7]
      have hI8 := hI.of (hg7.trans gB)
      have hO8 := own_below hown7 gB
      have hB8 : base ≤ (w7.alloc (.cells #[.int .i64 2, .int .u64 sk, .int .i64 1500, .int .i64 ((k : Int) * 1024), .slice A7 ys.length c7] 55)).heap.size := by have := (hg7.trans gB).size; omega
      have hb8 : Below base w5 _ := Below.trans (B := base) hbA ((hg7.trans gB).mono hB6)
      have HT := take37_any ⟨2, (sk, 1500), (k : Int) * 1024, ⟨A7, c7, ys⟩⟩ _ hI8 (rkK_ok k) (by rw [← HId.out]; exact idOf_wf (by rw [kz_len]; omega)) (own_row hO8) HBy.out (by show ys.length ≤ _; omega) (by omega) hB8
      simp only [Part.v] at HT
      have HT' := Lib.hid HT
      have HI8 := Lib.hid hI8
      have b0 := (kB.cell 0).trans (show _ = some (.int .i64 2) from rfl)
      have b1 := (kB.cell 1).trans (show _ = some (.int .u64 sk) from rfl)
      have b2 := (kB.cell 2).trans (show _ = some (.int .i64 1500) from rfl)
      have b3 := (kB.cell 3).trans (show _ = some (.int .i64 ((k : Int) * 1024)) from rfl)
      have b4 := (kB.cell 4).trans (show _ = some (.slice A7 ys.length c7) from rfl)
      clear HT hI hI8 hown7 hO8 hg7 gB kB hbA hB6
      go_wp2_with fail
      refine HT'.out.mono ?_
      clear HT' b0 b1 b2 b3 b4
      rintro e w9 ⟨L9, rfl, S9⟩
      rw [← HId.out, HTk.out] at S9 ⊢
      simp only at S9 ⊢
      have hb9 : Below base w5 w9 := Below.trans (B := base) hb8 (S9.below HI8.out hB8)
      have HS9 := Lib.hid S9
      clear S9 hb8 HI8
      go_wp2_with fail
      go_roundw
      case rel => exact ⟨k + 1, M + 2, L9, by omega, by go_num, HS9.out.is, by omega, hb9⟩
      case measure => simp [intOf]; omega
    · obtain rfl : k = 2 := by omega
      have hI2 : RcvIs _ base g M L rk2 := hI
      have hD := done37_yes _ hI2 rk2_ok rk2_miss
      rw [rk2_done, kz_len] at hD
      have hbs := hb.size
      have hltI : ¬ (2 : Int) < 2 := by omega
      go_wp2_with fail
      refine hD.mono ?_
      clear hD
      rintro e w6 ⟨A6, c6, rfl, hown6, hg⟩
      have hbA : Below base w5 w6 := Below.trans (B := base) hb (hg.mono (by omega))
      have hcA : Ch (fun i => base ≤ i) w5 w6 := ⟨hbA.os, hbA.tape, hbA.output, hbA.size, fun i hi hn => hbA.block i (by omega)⟩
      have hO6 := own_ch HO5.out hcA (fun i hi h => by have := HMl.out i hi; omega)
      have q1 := conv_row' (own_row hO6) c1
      have q2 := conv_row' (own_row hown6) c6
      rw [kz_len] at q1 q2
      clear hO6 hown6 hcA hI hI2
      go_wp2_with fail
      go_ret
      exact ⟨rfl, Below.trans (B := w.heap.size) hg6 (hbA.mono hwb)⟩
end
end Go.Proofs.Ytpoiejgoongllaa
