/-
  stockyardlaw24.ChunkerSuffix returns true.
-/
import Derived.Test.YtnbbbmmpkjiejaaCutPre
namespace Go.Proofs.Ytnbbbmmpkjiejaa
set_option linter.unusedVariables false
set_option linter.unusedSimpArgs false
set_option linter.unnecessarySimpa false
open Go.RowKit
attribute [local go_sem ↓] Go.wp_at_zero Go.wp_at_succ

set_option maxHeartbeats 1000000 in
theorem lawCSuffix_any (A : Option Addr) (cap : Nat) (ls : List Int) (at_ : Int) (w : World) (a0 : -9223372036854775808 ≤ at_) (a1 : at_ ≤ 9223372036854775807) (hr : Row w w.heap.size A (ls.map (.int .i64))) (hz : ∀ z ∈ ls, -9223372036854775808 ≤ z ∧ z ≤ 9223372036854775807) (hm : ls.length ≤ 9223372036854775807) :
    Calls Try.prog 3 #[.slice A ls.length cap, .int .i64 at_] w fun e w' => e = .returned (.bool true) ∧ Below w.heap.size w w' := by
  have hT := Tp.new (cap := cap) hr (Nat.le_refl _) hz hm
  have g0 := grew_alloc w (.cells #[.slice A ls.length cap, .int .i64 0] 25)
  have hch0 : Ch (At w.heap.size) w (w.alloc (.cells #[.slice A ls.length cap, .int .i64 0] 25)) := Ch.of_below g0
  have hs0 := g0.size
  clear hz g0 hr
  go_enter Try.func3, Try.ntmps3
  go_wp2_with fail
  generalize w.alloc (.cells #[.slice A ls.length cap, .int .i64 0] 25) = w1 at *
  refine (made24_any _ _ _ _ hT (by omega)).mono ?_
  rintro e w2 ⟨c, rfl, hsm, hT2, hch⟩
  have HS := Lib.hid hsm
  have hch2 := hch0.trans hch
  clear hT hch hch0 hs0 hsm
  unfold cutV
  have hC := CutAt.new w2 c
  have gC := grew_alloc w2 (.cells #[.int .i64 c.mn, .int .i64 c.mx, .int .i64 c.wn, .int .u64 c.mask] 28)
  have hT3 := hT2.of gC
  have hch3 := hch2.next gC
  have htl := hT2.lt
  clear gC hT2 hch2
  go_wp2_with fail
  generalize w2.alloc (.cells #[.int .i64 c.mn, .int .i64 c.mx, .int .i64 c.wn, .int .u64 c.mask] 28) = w3 at *
  generalize w2.heap.size = gc at *
  clear w2
  refine (text24_any _ _ _ 120 _ hT3 (by omega) (by omega)).mono ?_
  rintro e w4 ⟨A1, c1, zs, rfl, hlen, hz, hown, _, hch⟩
  have Hz := Lib.hid hz
  replace hC := hC.ch hch (by show ¬ gc = _; omega)
  have hch4 := hch3.trans hch
  have hb4 : Below w.heap.size w w4 := hch4.below (Nat.le_refl _) (fun i hi => by rw [hi]; exact Nat.le_refl _)
  have hrow := own_row hown
  have hcap := (own_cap hown).1
  clear hch hch3 hch4 hT3 hz hown w3 htl
  obtain ⟨d0, d1, d2, d3, d4⟩ := hC.cells
  have q := ends_len HS.out.ok zs
  go_wp2_with fail
  refine (ends24_at c HS.out.ok A1 c1 _ zs _ hrow (Nat.le_refl _) Hz.out (by omega)).mono ?_
  rintro e w5 ⟨A2, c2, rfl, hown2, hb⟩
  replace hC := hC.of hb
  have hrow5 := hrow.below hb (Nat.le_refl _)
  have hs5 := hb.size
  have hb5 : Grew w w5 := Grew.trans hb4 hb
  clear hb hb4 d0 d1 d2 d3 d4 hrow
  go_wp2_with fail
  refine (known24_any _).mono ?_
  rintro e w6 ⟨rfl, hb⟩
  replace hC := hC.of hb
  replace hown2 := own_below hown2 hb
  replace hrow5 := hrow5.below hb hs5
  replace hs5 := Nat.le_trans hs5 hb.size
  replace hb5 := Grew.trans hb5 hb
  clear hb
  have OK := Lib.hid HS.out.ok
  clear HS
  have E1 := Lib.hid (fun k (h : k < (endsZ c zs).length) => ends_lt OK.out h)
  by_cases h0 : (endsZ c zs).length = 0
  · rw [h0]
    go_wp2_with fail
    go_ret
    exact ⟨ret_bool rfl, hb5⟩
  have hr2 := own_row hown2
  clear hown2
  have n0 : 1 ≤ ((endsZ c zs).length : Int) := by omega
  have HF := Lib.hid (fun W => fold_any at_ (endsZ c zs).length a0 a1 (by omega) W)
  go_wp2_with fail
  refine (HF.out _).mono ?_
  rintro e wn ⟨rfl, rfl⟩
  have f0 := foldI_lo at_ (endsZ c zs).length
  have f1 := foldI_hi at_ (endsZ c zs).length n0
  obtain ⟨k, hk⟩ := Int.eq_ofNat_of_zero_le f0
  rw [hk] at f1 ⊢
  have hk2 : k < (endsZ c zs).length := by omega
  clear hk f0 f1 HF a0 a1
  obtain ⟨ad, rfl, hbl, hc⟩ := nat_at hr2 hk2
  have u := E1.out k hk2
  generalize hx : (endsZ c zs)[k] = x at *
  have HX := Lib.hid hx
  clear hx
  go_wp2_with fail
  have hrd := hrow5.cut' (lo := x) (m := zs.length - x) (cap := c1) (fun _ => by omega)
  have hll : ((zs.drop x).take (zs.length - x)) = zs.drop x := List.take_of_length_le (by rw [List.length_drop]; omega)
  rw [← List.map_drop, ← List.map_take, hll] at hrd
  have HL := Lib.hid (List.length_drop (l := zs) (i := x))
  have HD : Hid (∀ z ∈ zs.drop x, 0 ≤ z ∧ z ≤ 255) := Lib.hid (fun z hz => Hz.out z (List.mem_of_mem_drop hz))
  have HC := Lib.hid (fun cp W (h : Grew w6 W) => ends24_at c OK.out _ cp _ (zs.drop x) W (hrd.below h hs5) (Nat.le_trans hs5 h.size) HD.out (by rw [HL.out]; omega))
  rw [HL.out] at HC
  obtain ⟨d0, d1, d2, d3, d4⟩ := hC.cells
  have x1 : (x : Int) ≤ zs.length := by omega
  refine wp_region_g 12 (by kernel_rfl) ?_
  refine AllC.head 0 7 (fuel := 6) (by first | exact fun h k => Grew.trans h k | exact fun h k => cls_grew h k) (grew_drew _) (by rfl) (by kernel_rfl) ?_
  simp only [List.take_succ_cons, List.take_zero, List.drop_succ_cons, List.drop_zero]
  repeat (first
    | (refine HeadC.val (by rfl) ?_
       apply Exists.intro
       refine ⟨fun w' hw' => ?_, ?_⟩
       · (have hf_0 := cell_up hw' d0; have hf_1 := cell_up hw' d1; have hf_2 := cell_up hw' d2; have hf_3 := cell_up hw' d3; have hf_4 := cell_up hw' hc; (go_simp) <;> (try go_ints) <;> with_reducible rfl)
       try simp only [Act.put, List.setIfInBounds_toArray, List.set_cons_zero, List.set_cons_succ])
    | (refine HeadC.shut (by rfl) ?_
       try simp only [Act.put, List.setIfInBounds_toArray, List.set_cons_zero, List.set_cons_succ]))
  refine HeadC.nil ?_
  generalize (if c1 = x then A1 else A1.map (·.add x)) = sv at *
  refine AllC.one 7 (by kernel_rfl) rfl ?_
  intro wg hg K hK
  go_simp
  have hg' : Grew w6 wg := (grew_drew _).trans hg
  refine (HC.out _ wg hg').mono ?_
  rintro e w7 ⟨A3, c3, rfl, hown3, hb⟩
  have hg7 : Grew w6 w7 := Grew.trans hg' hb
  refine hK.out _ _ hg7 ?_
  clear hK K hg' hg hb HC d0 d1 d2 d3 d4 hrd hll hcap hrow5
  try simp only [Act.put, List.setIfInBounds_toArray, List.set_cons_zero, List.set_cons_succ]
  refine AllC.head 8 4 (fuel := 1) (by first | exact fun h k => Grew.trans h k | exact fun h k => cls_grew h k) (hg7) (by rfl) (by kernel_rfl) ?_
  simp only [List.take_succ_cons, List.take_zero, List.drop_succ_cons, List.drop_zero]
  repeat (first
    | (refine HeadC.val (by rfl) ?_
       apply Exists.intro
       refine ⟨fun w' hw' => ?_, ?_⟩
       · ((go_simp) <;> (try go_ints) <;> with_reducible rfl)
       try simp only [Act.put, List.setIfInBounds_toArray, List.set_cons_zero, List.set_cons_succ])
    | (refine HeadC.shut (by rfl) ?_
       try simp only [Act.put, List.setIfInBounds_toArray, List.set_cons_zero, List.set_cons_succ]))
  refine HeadC.nil ?_
  refine AllC.tail 12 (by rfl) (by kernel_rfl) ?_
  intro wt hwt
  simp only [List.drop_succ_cons, List.drop_zero]
  replace hg7 := hg7.trans hwt
  have hr2' := hr2.below hg7 (Nat.le_refl _)
  have hr3 := own_row (own_below hown3 hwt)
  have hb7 : Grew w wt := Grew.trans hb5 hg7
  have hsuf := endsZ_suffix OK.out zs k x (by rw [List.getElem?_eq_getElem hk2, HX.out])
  have hlen : (endsZ c (zs.drop x)).length = (endsZ c zs).length - (k + 1) := by rw [← List.length_drop, hsuf, List.length_map]
  have HSf := Lib.hid hsuf
  have q2 := ends_len OK.out (zs.drop x)
  have HE3 := Lib.hid (fun k (h : k < (endsZ c (zs.drop x)).length) => ends_lt OK.out h)
  clear hsuf hg7 hwt hown3 hr2 hc hb5 hC
  generalize endsZ c (zs.drop x) = ys at *
  generalize endsZ c zs = xs at *
  have k2 : ((ys.length : Nat) : Int) = (xs.length : Int) - k - 1 := by omega
  go_wp2_with fail
  clear k2 hlen q2
  have hlen : ys.length = xs.length - (k + 1) := by rw [← List.length_drop, HSf.out, List.length_map]
  go_loopw [13] (fun i wr => (∃ j : Nat, j ≤ ys.length ∧ i = .int .i64 j) ∧ Drawn wt wr) (fun i _ => ys.length - (intOf i).toNat)
  case atStart => exact ⟨⟨0, Nat.zero_le _, rfl⟩, Drawn.refl _⟩
  case round =>
    obtain ⟨⟨j, hj, rfl⟩, hd⟩ := hrel
    by_cases hlt : j < ys.length
    · obtain ⟨ad3, rfl, hb3, hc3⟩ := nat_at (hr3.keep (w' := wr) fun p _ => hd.cell p) hlt
      obtain ⟨ad1, he1, hb1, hc1⟩ := nat_at (hr2'.keep (w' := wr) fun p _ => hd.cell p) hk2
      obtain rfl : ad = ad1 := by injection he1
      have hj2 : k + 1 + j < xs.length := by omega
      obtain ⟨ad2, he2, hb2, hc2⟩ := nat_at (hr2'.keep (w' := wr) fun p _ => hd.cell p) hj2
      obtain rfl : ad = ad2 := by injection he2
      have hv : xs[k + 1 + j] = ys[j] + x := by
        have h1 : (xs.drop (k + 1))[j]? = some (ys[j] + x) := by rw [HSf.out, List.getElem?_map, List.getElem?_eq_getElem hlt]; rfl
        rw [List.getElem?_drop, List.getElem?_eq_getElem hj2] at h1
        injection h1
      have u3 := HE3.out j hlt
      rw [HX.out] at hc1
      rw [hv] at hc2
      rw [HL.out] at u3
      clear hv he1 he2
      generalize ys[j] = y at *
      have t1 : ((k : Int) + 1 + j).toNat = k + 1 + j := by omega
      have t2 : (y : Int) + x ≤ 9223372036854775807 := by omega
      have t3 : ((y + x : Nat) : Int) = (y : Int) + x := by omega
      rw [t3] at hc2
      clear t3
      go_wp2_with fail
      go_quiet (fail)
      go_wp2
      go_roundw
      case rel => exact ⟨⟨j + 1, by omega, by go_num⟩, hd.drewN _⟩
      case measure => simp [intOf]; omega
    · go_wp2_with fail
      go_ret
      exact ⟨ret_bool rfl, Grew.trans hb7 (hd.below _)⟩

end Go.Proofs.Ytnbbbmmpkjiejaa
