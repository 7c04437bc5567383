/-
  stockyardlaw24.ChunkerFew returns true.
-/
import Derived.Test.YtnbbbmmpkjiejaaCutPre
namespace Go.Proofs.Ytnbbbmmpkjiejaa
set_option linter.unusedVariables false
set_option linter.unusedSimpArgs false
set_option linter.unnecessarySimpa false
open Go.RowKit
attribute [local go_sem ↓] Go.wp_at_zero Go.wp_at_succ

/-- the wider mask -/
def wideZ (c : CutZ) : CutZ := ⟨c.mn, c.mx, c.wn, 2 * c.mask + 1⟩
theorem wide_bits {c : CutZ} (h : Small c) : 0 ≤ c.mask ∧ c.mask ≤ 15 ∧ bits .or .u64 c.mask (bits .or .u64 (2 * c.mask) 1) = 2 * c.mask + 1 := by
  obtain ⟨ok, j, hj, hm⟩ := h
  rw [hm]
  rcases (by omega : j = 0 ∨ j = 1 ∨ j = 2 ∨ j = 3 ∨ j = 4) with h | h | h | h | h <;> subst h <;> decide +kernel
theorem wide_ok {c : CutZ} (h : Small c) : (wideZ c).Ok := by
  obtain ⟨h0, h1, h2⟩ := wide_bits h
  have ok := h.ok
  exact { ok with m0 := by show 0 ≤ 2 * c.mask + 1; omega, m1 := by show 2 * c.mask + 1 < 18446744073709551616; omega }
theorem mask_low {j : Nat} (hj : j < 6) {s : Int} (hs : Fp s) : maskZ ((2 : Int) ^ j - 1) s = decide (s % 2 ^ j = 0) := by
  obtain ⟨h0, h1⟩ := hs
  obtain ⟨n, rfl⟩ := Int.eq_ofNat_of_zero_le h0
  have hp : (2 ^ j : Nat) ≤ 32 := by rcases (by omega : j = 0 ∨ j = 1 ∨ j = 2 ∨ j = 3 ∨ j = 4 ∨ j = 5) with h | h | h | h | h | h <;> subst h <;> decide
  have hp0 : 0 < (2 ^ j : Nat) := Nat.two_pow_pos j
  have e : ((2 : Int) ^ j - 1) = ((2 ^ j - 1 : Nat) : Int) := by rw [Int.natCast_sub hp0]; simp
  have h := bits_and_u64_nat (2 ^ j - 1) n (by omega) (by omega)
  rw [Nat.and_comm, Nat.and_two_pow_sub_one_eq_mod] at h
  unfold maskZ
  rw [e, h]
  have e2 : ((n : Int) % 2 ^ j) = ((n % 2 ^ j : Nat) : Int) := by simp
  rw [e2]
theorem wide_wider {c : CutZ} (h : Small c) : Wider c (wideZ c) := by
  obtain ⟨ok, j, hj, hm⟩ := h
  refine ⟨rfl, rfl, rfl, fun s hs h => ?_⟩
  have e : (wideZ c).mask = (2 : Int) ^ (j + 1) - 1 := by show 2 * c.mask + 1 = _; rw [hm, Int.pow_succ]; omega
  rw [e, mask_low (by omega) hs, decide_eq_true_eq] at h
  rw [hm, mask_low (by omega) hs, decide_eq_true_eq]
  rcases (by omega : j = 0 ∨ j = 1 ∨ j = 2 ∨ j = 3 ∨ j = 4) with h' | h' | h' | h' | h' <;> subst h' <;> simp only [Nat.reduceAdd, Int.reducePow] at h ⊢ <;> omega

theorem few_lo {c : CutZ} (ok : c.Ok) (l : List Int) : ((l.length : Int) + c.mx - 1) / c.mx ≤ ((endsZ c l).length : Int) := by
  have h := lens_le_max ok l
  have h1 := ok.w1; have h2 := ok.wm; have h3 := ok.mm
  have : ((l.length : Int) + c.mx - 1) / c.mx < ((endsZ c l).length : Int) + 1 := by
    refine Int.ediv_lt_of_lt_mul (by omega) ?_
    rw [Int.add_mul, Int.one_mul, ← Int.natCast_mul]
    omega
  omega
theorem few_hi {c : CutZ} (ok : c.Ok) (l : List Int) : ((endsZ c l).length : Int) ≤ ((l.length : Int) + c.mn - 1) / c.mn := by
  have h1 := ok.w1; have h2 := ok.wm
  refine Int.le_ediv_of_mul_le (by omega) ?_
  by_cases hl : l = []
  · subst hl; rw [endsZ_nil]; simp <;> omega
  · have h := lens_ge_min ok l hl
    have h4 := endsZ_ne ok hl
    have h3 : (endsZ c l).length * c.mn = ((endsZ c l).length - 1) * c.mn + c.mn := by
      have h5 : (endsZ c l).length = ((endsZ c l).length - 1) + 1 := by omega
      conv => lhs; rw [h5]
      rw [Nat.add_mul, Nat.one_mul]
    rw [← Int.natCast_mul]
    omega

set_option maxHeartbeats 1000000 in
theorem lawCFew_any (A : Option Addr) (cap : Nat) (ls : List Int) (w : World) (hr : Row w w.heap.size A (ls.map (.int .i64))) (hz : ∀ z ∈ ls, -9223372036854775808 ≤ z ∧ z ≤ 9223372036854775807) (hm : ls.length ≤ 9223372036854775807) :
    Calls Try.prog 7 #[.slice A ls.length cap] w fun e w' => e = .returned (.bool true) ∧ Below w.heap.size w w' := by
  have hT := Tp.new (cap := cap) hr (Nat.le_refl _) hz hm
  have g0 := grew_alloc w (.cells #[.slice A ls.length cap, .int .i64 0] 25)
  have hch0 : Ch (At w.heap.size) w (w.alloc (.cells #[.slice A ls.length cap, .int .i64 0] 25)) := Ch.of_below g0
  have hs0 := g0.size
  clear hz g0 hr
  go_enter Try.func7, Try.ntmps7
  go_wp2_with fail
  generalize w.alloc (.cells #[.slice A ls.length cap, .int .i64 0] 25) = w1 at *
  refine (made24_any _ _ _ _ hT (by omega)).mono ?_
  rintro e w2 ⟨c, rfl, hsm, hT2, hch⟩
  have HS := Lib.hid hsm
  have hch2 := hch0.trans hch
  clear hT hch hch0 hs0 hsm
  unfold cutV
  have hC := CutAt.new w2 c
  have gC := grew_alloc w2 (.cells #[.int .i64 c.mn, .int .i64 c.mx, .int .i64 c.wn, .int .u64 c.mask] 28)
  have hT3 := hT2.of gC
  have hch3 := hch2.next gC
  have htl := hT2.lt
  clear gC hT2 hch2
  go_wp2_with fail
  generalize w2.alloc (.cells #[.int .i64 c.mn, .int .i64 c.mx, .int .i64 c.wn, .int .u64 c.mask] 28) = w3 at *
  generalize w2.heap.size = gc at *
  clear w2
  refine (text24_any _ _ _ 120 _ hT3 (by omega) (by omega)).mono ?_
  rintro e w4 ⟨A1, c1, zs, rfl, hlen, hz, hown, _, hch⟩
  have Hz := Lib.hid hz
  replace hC := hC.ch hch (by show ¬ gc = _; omega)
  have hch4 := hch3.trans hch
  have hb4 : Below w.heap.size w w4 := hch4.below (Nat.le_refl _) (fun i hi => by rw [hi]; exact Nat.le_refl _)
  have hrow := own_row hown
  clear hch hch3 hch4 hT3 hz hown w3 htl
  obtain ⟨d0, d1, d2, d3, d4⟩ := hC.cells
  have q := ends_len HS.out.ok zs
  go_wp2_with fail
  refine (ends24_at c HS.out.ok A1 c1 _ zs _ hrow (Nat.le_refl _) Hz.out (by omega)).mono ?_
  rintro e w5 ⟨A2, c2, rfl, hown2, hb⟩
  replace hC := hC.of hb
  have hrow5 := hrow.below hb (Nat.le_refl _)
  have hs5 := hb.size
  have hb5 : Grew w w5 := Grew.trans hb4 hb
  clear hb hb4 d0 d1 d2 d3 d4 hrow
  obtain ⟨d0, d1, d2, d3, d4⟩ := hC.cells
  obtain ⟨m0, m1, m2⟩ := wide_bits HS.out
  have M := Lib.hid m2
  clear m2
  have okw := wide_ok HS.out
  have gW := grew_alloc w5 (.cells #[.int .i64 c.mn, .int .i64 c.mx, .int .i64 c.wn, .int .u64 (2 * c.mask + 1)] 28)
  have hsw : IntKind.u64.wrap (c.mask * 2) = 2 * c.mask := by rw [IntKind.wrap_u64]; omega
  replace hC := hC.of gW
  replace hrow5 := hrow5.below gW hs5
  replace hown2 := own_below hown2 gW
  replace hb5 := Grew.trans hb5 gW
  replace hs5 := Nat.le_trans hs5 gW.size
  clear gW
  go_wp2_with fail
  rw [M.out]
  clear M hsw d0 d1 d2 d3 d4 m0 m1
  generalize w5.alloc (.cells #[.int .i64 c.mn, .int .i64 c.mx, .int .i64 c.wn, .int .u64 (2 * c.mask + 1)] 28) = w6 at *
  refine (ends24_at (wideZ c) okw A1 c1 _ zs _ hrow5 hs5 Hz.out (by omega)).mono ?_
  rintro e w7 ⟨A3, c3, rfl, hown3, hb⟩
  replace hC := hC.of hb
  replace hown2 := own_below hown2 hb
  replace hb5 := Grew.trans hb5 hb
  clear hb hs5 hrow5
  go_wp2_with fail
  refine (known24_any _).mono ?_
  rintro e w8 ⟨rfl, hb⟩
  replace hC := hC.of hb
  have hr2 := own_row (own_below hown2 hb)
  have hr3 := own_row (own_below hown3 hb)
  replace hb5 := Grew.trans hb5 hb
  have q' := ends_len okw zs
  have OK := Lib.hid HS.out.ok
  have WD := Lib.hid (wide_wider HS.out)
  have OW := Lib.hid okw
  clear hb hown2 hown3 okw HS
  obtain ⟨d0, d1, _, _, d4⟩ := hC.cells
  have k0 : 1 ≤ c.mn := by have := OK.out.w1; have := OK.out.wm; omega
  have k1 : c.mn ≤ c.mx := OK.out.mm
  have k2 : c.mx ≤ 8192 := OK.out.mx
  have k3 := few_lo OK.out zs
  have k4 := few_hi OK.out zs
  have E1 := fun k (h : k < (endsZ c zs).length) => ends_lt OK.out h
  have E2 := fun k (h : k < (endsZ (wideZ c) zs).length) => ends_lt OW.out h
  clear hC
  generalize hxs : endsZ c zs = xs at *
  generalize hys : endsZ (wideZ c) zs = ys at *
  have HX := Lib.hid hxs
  have HY := Lib.hid hys
  have H1 := Lib.hid E1
  have H2 := Lib.hid E2
  clear hxs hys E1 E2
  go_wp2_with fail
  clear k3 k4 d0 d1 d4
  go_loopw [12] (fun i wr => (∃ k : Nat, k ≤ xs.length ∧ k ≤ ys.length ∧ i = .int .i64 k ∧ Hid (∀ j, j < k → xs[j]? = ys[j]?)) ∧ Drawn w8 wr) (fun i _ => xs.length - (intOf i).toNat)
  case atStart => exact ⟨⟨0, Nat.zero_le _, Nat.zero_le _, rfl, Lib.hid (fun j h => absurd h (Nat.not_lt_zero _))⟩, Drawn.refl _⟩
  case round =>
    obtain ⟨⟨k, hk, hk', rfl, HT⟩, hd⟩ := hrel
    by_cases hlt : k < xs.length
    · by_cases hlt2 : k < ys.length
      · obtain ⟨ad, rfl, hb, hc⟩ := nat_at (hr2.keep (w' := wr) fun p _ => hd.cell p) hlt
        obtain ⟨ad2, rfl, hb2, hc2⟩ := nat_at (hr3.keep (w' := wr) fun p _ => hd.cell p) hlt2
        have u1 := (H1.out k hlt)
        have u2 := (H2.out k hlt2)
        by_cases he : xs[k] = ys[k]
        · have HE : Hid (∀ j, j < k + 1 → xs[j]? = ys[j]?) := Lib.hid (fun j hj => by
            rcases Nat.lt_succ_iff_lt_or_eq.1 hj with h | h
            · exact HT.out j h
            · subst h; rw [List.getElem?_eq_getElem hlt, List.getElem?_eq_getElem hlt2, he])
          rw [← he] at hc2
          clear he u2
          generalize xs[k] = x at *
          go_wp2_with fail
          go_quiet (fail)
          go_wp2
          go_roundw
          case rel => exact ⟨⟨k + 1, by omega, by omega, by go_num, HE⟩, hd.drewN _⟩
          case measure => simp [intOf]; omega
        · have hle : xs[k] ≤ ys[k] := by
            have e1 := HX.out; have e2 := HY.out
            subst e1; subst e2
            exact endsZ_wider OK.out OW.out WD.out k zs _ _ (List.getElem?_eq_getElem hlt) (List.getElem?_eq_getElem hlt2) HT.out
          generalize xs[k] = x at *
          generalize ys[k] = y at *
          have hne : ((x : Int) != (y : Int)) = true := by rw [bne_iff_ne]; omega
          have hgt : (x : Int) < (y : Int) := by omega
          clear he hle
          go_wp2_with fail
          go_quiet (fail)
          go_wp2
          go_quiet (fail)
          go_wp2
          go_ret
          exact ⟨ret_bool (by simp <;> omega), Grew.trans hb5 ((hd.drewN _).drewN _ |>.below _)⟩
      · go_wp2_with fail
        go_ret
        exact ⟨ret_bool rfl, Grew.trans hb5 (hd.below _)⟩
    · go_wp2_with fail
      go_ret
      exact ⟨ret_bool rfl, Grew.trans hb5 (hd.below _)⟩

end Go.Proofs.Ytnbbbmmpkjiejaa
