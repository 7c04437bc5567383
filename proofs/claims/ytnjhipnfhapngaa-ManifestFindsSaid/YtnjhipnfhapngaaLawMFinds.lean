/-
  stockyardlaw25.ManifestFinds returns true.
-/
import Derived.Test.YtnjhipnfhapngaaPre25
namespace Go.Proofs.Ytnjhipnfhapngaa
set_option linter.unusedVariables false
set_option linter.unusedSimpArgs false
set_option linter.unnecessarySimpa false
open Go.RowKit
attribute [local go_sem ↓] Go.wp_at_zero Go.wp_at_succ


set_option maxRecDepth 4000 in
set_option maxHeartbeats 2000000 in
theorem lawMFinds_any (A : Option Addr) (cap : Nat) (ls : List Int) (o : Int) (o0 : -9223372036854775808 ≤ o) (o1 : o ≤ 9223372036854775807) (w : World) (hr : Row w w.heap.size A (ls.map (.int .i64))) (hz : ∀ z ∈ ls, -9223372036854775808 ≤ z ∧ z ≤ 9223372036854775807) (hm : ls.length ≤ 9223372036854775807) :
    Calls Try.prog 6 #[.slice A ls.length cap, .int .i64 o] w fun e w' => e = .returned (.bool true) ∧ Below w.heap.size w w' := by
  have hT := Tp.new (cap := cap) hr (Nat.le_refl _) hz hm
  have g0 := grew_alloc w (.cells #[.slice A ls.length cap, .int .i64 0] 26)
  have hch0 : Ch (At w.heap.size) w (w.alloc (.cells #[.slice A ls.length cap, .int .i64 0] 26)) := Ch.of_below g0
  clear hz g0 hr
  go_enter Try.func6, Try.ntmps6
  go_wp2_with fail
  generalize w.alloc (.cells #[.slice A ls.length cap, .int .i64 0] 26) = w1 at *
  refine (pieces25_any _ _ _ 8 _ hT (by omega) (by omega)).mono ?_
  rintro e w2 ⟨Ap, cp, ps, rfl, hpl, hS, hownp, hTx, hT2, hch⟩
  have hb2 : Grew w w2 := (hch0.trans hch).below (Nat.le_refl _) (fun i hi => by rw [hi]; exact Nat.le_refl _)
  have htl := hT2.lt
  clear hT hch hch0
  have hsm := small_sum hS
  go_wp2_with fail
  refine (refOf25_any Ap cp _ _ ps w2 hownp hTx (fun p hp => (hS p hp).2.2) (by omega) (by have : totP ps ≤ 1073741824 := by omega
                                                                                           exact this)).mono ?_
  rintro e w3 ⟨A2, c2, rfl, hown2, hb⟩
  rw [totP_of]
  have hM := Blk.new w3 31 #[.int .i64 (totP ps : Nat), .slice A2 ps.length c2]
  have gM := grew_alloc w3 (.cells #[.int .i64 (totP ps : Nat), .slice A2 ps.length c2] 31)
  have hgm : ¬ At w.heap.size w3.heap.size := by have := hb.size; show ¬ _ = _; omega
  have h13 := Grew.trans hb gM
  have hb4 := Grew.trans hb2 h13
  have hT4 := hT2.of h13
  have hownp4 := own_below hownp h13
  have hTx4 := hTx.of h13
  have hown4 := own_below hown2 gM
  clear hb gM h13 hb2 hT2 hownp hTx hown2
  go_wp2_with fail
  generalize w3.alloc (.cells #[.int .i64 (totP ps : Nat), .slice A2 ps.length c2] 31) = w4 at *
  generalize w3.heap.size = gm at *
  clear w3
  refine (known25_any _).mono ?_
  rintro e w5 ⟨rfl, hb⟩
  have hb5 := Grew.trans hb4 hb
  have hown5 := own_below hown4 hb
  have hownp5 := own_below hownp4 hb
  have hTx5 := hTx4.of hb
  have hM5 := hM.of hb
  clear hb4 hown4 hownp4 hTx4 hM hb hT4 hgm htl
  have m0 := (hM5.cell 0).trans (show _ = some (.int .i64 (totP ps : Nat)) from rfl)
  have m1 := (hM5.cell 1).trans (show _ = some (.slice A2 ps.length c2) from rfl)
  by_cases hn0 : totP ps = 0
  · rw [hn0] at m0
    go_wp2_with fail
    go_ret
    exact ⟨rfl, hb5⟩
  have n0 : ¬ (totP ps : Int) = 0 := by omega
  have n1 : 1 ≤ (totP ps : Int) := by omega
  have hck := small_chk hS (by omega)
  have hok := small_ok hS
  rw [totP_of] at hck
  have HTL := Lib.hid (totP_le ps)
  have HTT := Lib.hid (fun k (h : k < ps.length) => totP_take h)
  have HFA := Lib.hid (fun k x (hk : k < ps.length) (hx : x < ps[k].zs.length) => flat_at hk hx)
  have HFL := Lib.hid (flat_len ps)
  have HTE := Lib.hid (show totP (ps.take 0) = 0 by simp [totP])
  have HTO := Lib.hid (fun k => (congrArg sumN (idsOf_take ps k)).trans (totP_of (ps.take k)))
  have HTA := Lib.hid (show totP (ps.take ps.length) = totP ps by rw [List.take_length])
  have HIL := Lib.hid (idsOf_length ps)
  have HF := Lib.hid (fun W => fold_any o (totP ps : Nat) o0 o1 (by omega) W)
  go_wp2_with fail
  refine (HF.out _).mono ?_
  rintro e wn ⟨rfl, rfl⟩
  have f0 := foldI_lo o (totP ps : Nat)
  have f1 := foldI_hi o (totP ps : Nat) n1
  obtain ⟨k, hk⟩ := Int.eq_ofNat_of_zero_le f0
  rw [hk] at f1 ⊢
  have hk2 : k < totP ps := by omega
  clear hk f0 f1 HF o0 o1
  have hrI : Row w5 w5.heap.size A2 (idsC (idsOf ps)) := own_row hown5
  have HL := locate25_any (totP ps : Nat) A2 c2 _ (idsOf ps) k w5 hrI (Nat.le_refl _) (by rw [idsOf_length]; omega)
  rw [idsOf_length] at HL
  have HL := Lib.hid HL
  have hcut := own_cap hown5
  go_wp2_with fail
  refine HL.out.mono ?_
  rintro e w6 ⟨v, rfl, hv, hb⟩
  have hz0 : locE (totP ps : Nat) (idsOf ps) k = 0 := by unfold locE; rw [if_pos hck, if_neg (by omega)]
  unfold LocRes at hv
  rw [if_pos hz0] at hv
  obtain ⟨c, hc, rfl⟩ := hv
  obtain ⟨hc1, hc2, hc3⟩ := hc
  rw [HIL.out] at hc1
  rw [HTO.out] at hc2 hc3
  rw [HTT.out c hc1] at hc3
  rw [HTO.out c]
  obtain ⟨x, hx⟩ : ∃ x : Nat, k = totP (ps.take c) + x := ⟨k - totP (ps.take c), by omega⟩
  have hx2 : x < ps[c].zs.length := by omega
  have hx3 : (k : Int) - (totP (ps.take c) : Nat) = (x : Int) := by omega
  rw [hx3]
  have hxk : ((totP (ps.take c) : Nat) : Int) + (x : Int) = (k : Int) := by omega
  have HX := Lib.hid hx
  clear hx
  have hb6 := Grew.trans hb5 hb
  have hownp6 := own_below hownp5 hb
  have hTx6 := hTx5.of hb
  clear hb5 hown5 hownp5 hTx5 hM5 hb m0 m1 n0 n1 hck hok HL hcut hrI hz0 hc2 hc3 hx3 hn0
  have hp9 := (pt_mem hS hc1).2.1
  have hrp := own_row hownp6
  obtain ⟨ad, rfl, hbl, hcc⟩ := part_at hrp hc1
  have c0 : ¬ ((c : Int) < 0) := by omega
  have c1 : ¬ ((ps.length : Int) ≤ (c : Int)) := by omega
  have x0 : ¬ ((x : Int) < 0) := by omega
  have x1 : ¬ ((ps[c].zs.length : Int) ≤ (x : Int)) := by omega
  have c1' : c < ps.length := by omega
  go_wp2_with fail
  go_loopw [12, 13] (fun a i wr => ∃ j : Nat, j ≤ c ∧ i = .int .i64 j ∧ a = .int .i64 (totP (ps.take j) : Nat) ∧ w6 = wr) (fun _ i _ => c - (intOf i).toNat)
  case atStart => exact ⟨0, Nat.zero_le _, rfl, by rw [HTE.out]; rfl, rfl⟩
  case round =>
    obtain ⟨j, hj, rfl, rfl, rfl⟩ := hrel
    by_cases hlt : j < c
    · have hlt' : (j : Int) < (c : Int) := by omega
      obtain ⟨ad2, he2, hbl2, hcj⟩ := part_at hrp (show j < ps.length by omega)
      obtain rfl : ad = ad2 := by injection he2
      have hjp : j < ps.length := by omega
      have t1 := HTT.out j hjp
      have t2 := HTL.out j
      have t3 := (pt_mem hS hjp).2.1
      clear hcc
      generalize ps[j] = q at *
      go_wp2_with fail
      go_roundw
      case rel => exact ⟨j + 1, by omega, by go_num, by rw [t1]; go_num, by first | rfl | trivial⟩
      case measure => simp [intOf]; omega
    · obtain rfl : j = c := by omega
      obtain ⟨ad3, he3, hb3, hc3⟩ := (hTx6 _ (List.getElem_mem hc1)).row.at_ (k := x) (by simpa using hx2)
      rw [List.getElem_map] at hc3
      have HE := HFA.out j x hc1 hx2
      rw [← HX.out] at HE
      rw [he3] at hcc
      have t2 := HTL.out j
      have hsl : (flat ps).length = totP ps := HFL.out
      have hJ := Lib.hid (fun W (h : Grew w6 W) => joined_any (some ad) cp _ ps W (hrp.up h (Nat.le_refl _)) (fun p hp => ((hTx6 p hp).row).up h (Nat.le_refl _)) h.size (by omega) (by omega))
      generalize ps[j].zs[x] = z at *
      generalize ps[j] = q at *
      have hxa : totP (ps.take j) + x ≤ 72 := by have := Lib.hid hsm; omega
      clear hsm HTT HFA HTE HTO HTA HIL HX HTL
      generalize totP (ps.take j) = a at *
      have hxa : (a : Int) + (x : Int) ≤ 72 := by omega
      go_upto_region 17 with fail
      refine wp_region_g 20 (by kernel_rfl) ?_
      refine AllC.head 0 14 (fuel := 7) (by first | exact fun h k => Grew.trans h k | exact fun h k => cls_grew h k) (grew_drew _) (by rfl) (by kernel_rfl) ?_
      simp only [List.take_succ_cons, List.take_zero, List.drop_succ_cons, List.drop_zero]
      repeat (first
        | (refine HeadC.val (by rfl) ?_
           apply Exists.intro
           refine ⟨fun w' hw' => ?_, ?_⟩
           · (have hf_0 := cell_up hw' hcc; have hf_1 := cell_up hw' hc3; (go_simp) <;> (try go_ints) <;> with_reducible rfl)
           try simp only [Act.put, List.setIfInBounds_toArray, List.set_cons_zero, List.set_cons_succ])
        | (refine HeadC.shut (by rfl) ?_
           try simp only [Act.put, List.setIfInBounds_toArray, List.set_cons_zero, List.set_cons_succ]))
      refine HeadC.nil ?_
      refine AllC.head 15 1 (fuel := 6) (by first | exact fun h k => Grew.trans h k | exact fun h k => cls_grew h k) (grew_drew _) (by rfl) (by kernel_rfl) ?_
      simp only [List.take_succ_cons, List.take_zero, List.drop_succ_cons, List.drop_zero]
      repeat (first
        | (refine HeadC.val (by rfl) ?_
           apply Exists.intro
           refine ⟨fun w' hw' => ?_, ?_⟩
           · ((go_simp) <;> (try go_ints) <;> with_reducible rfl)
           try simp only [Act.put, List.setIfInBounds_toArray, List.set_cons_zero, List.set_cons_succ])
        | (refine HeadC.shut (by rfl) ?_
           try simp only [Act.put, List.setIfInBounds_toArray, List.set_cons_zero, List.set_cons_succ]))
      refine HeadC.nil ?_
      refine AllC.one 14 (by kernel_rfl) rfl ?_
      intro wg hg K hK
      go_simp
      have hg' : Grew w6 wg := (grew_drew _).trans hg
      refine (hJ.out wg hg').mono ?_
      rintro e w7 ⟨A7, c7, rfl, hown7, hb⟩
      have hg7 : Grew w6 w7 := Grew.trans hg' hb
      have hr7 := own_row hown7
      obtain ⟨ad7, he7, hb7, hc7⟩ := hr7.at_ (k := k) (by rw [List.length_map]; omega)
      rw [List.getElem_map] at hc7
      have hz : (flat ps)[k]'(by omega) = z := by
        rw [List.getElem?_eq_getElem (by omega)] at HE
        injection HE
      rw [hz] at hc7
      rw [he7]
      refine hK.out _ _ hg7 ?_
      clear hK K hg' hg hb hJ
      try simp only [Act.put, List.setIfInBounds_toArray, List.set_cons_zero, List.set_cons_succ]
      rw [hsl]
      refine AllC.one 16 (by kernel_rfl) rfl ?_
      intro wg hg K hK
      go_simp
      have hc8 := cell_up hg hc7
      have hg8 := hg7.trans hg
      refine hK.out _ _ hg8 ?_
      clear hK K hg hg7 hc7
      try simp only [Act.put, List.setIfInBounds_toArray, List.set_cons_zero, List.set_cons_succ]
      refine AllC.one 17 (by kernel_rfl) rfl ?_
      intro wg hg K hK
      go_simp
      have hc9 := cell_up hg hc8
      go_simp
      refine hK.out _ _ (hg8.trans hg) ?_
      have hg9 := hg8.trans hg
      clear hK K hg hg8 hc8 hc9
      try simp only [Act.put, List.setIfInBounds_toArray, List.set_cons_zero, List.set_cons_succ]
      refine AllC.head 18 2 (fuel := 1) (by first | exact fun h k => Grew.trans h k | exact fun h k => cls_grew h k) (hg9) (by rfl) (by kernel_rfl) ?_
      simp only [List.take_succ_cons, List.take_zero, List.drop_succ_cons, List.drop_zero]
      repeat (first
        | (refine HeadC.val (by rfl) ?_
           apply Exists.intro
           refine ⟨fun w' hw' => ?_, ?_⟩
           · ((go_simp) <;> (try go_ints) <;> with_reducible rfl)
           try simp only [Act.put, List.setIfInBounds_toArray, List.set_cons_zero, List.set_cons_succ])
        | (refine HeadC.shut (by rfl) ?_
           try simp only [Act.put, List.setIfInBounds_toArray, List.set_cons_zero, List.set_cons_succ]))
      refine HeadC.nil ?_
      refine AllC.tail 20 (by rfl) (by kernel_rfl) ?_
      intro wt hwt
      simp only [List.drop_succ_cons, List.drop_zero]
      have hb8 : Grew w wt := Grew.trans hb6 (hg9.trans hwt)
      go_wp2_with fail
      go_ret
      exact ⟨rfl, hb8⟩

end Go.Proofs.Ytnjhipnfhapngaa
