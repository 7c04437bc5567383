/-
  manifest.Locate and the reference's Locate: the chunk of a byte, and the byte's offset in it.
-/
import Derived.Test.YtnjhipnfhapngaaSl25
namespace Go.Proofs.Ytnjhipnfhapngaa
set_option linter.unusedVariables false
set_option linter.unusedSimpArgs false
set_option linter.unnecessarySimpa false
open Go.RowKit
attribute [local go_sem ↓] Go.wp_at_zero Go.wp_at_succ

theorem okId_bd {x : IdZ} (h : okId x = true) : 1 ≤ x.2 ∧ x.2 ≤ 8192 := by
  unfold okId at h
  simp only [Bool.and_eq_true, decide_eq_true_eq] at h
  exact h.2
theorem ok_at {l : List IdZ} (h : l.all okId = true) {k : Nat} (hk : k < l.length) : 1 ≤ l[k].2 ∧ l[k].2 ≤ 8192 := okId_bd (List.all_eq_true.1 h _ (List.getElem_mem hk))
theorem sumN_mono {l : List IdZ} (h : l.all okId = true) : ∀ {i j : Nat}, i ≤ j → sumN (l.take i) ≤ sumN (l.take j) := by
  intro i j hij
  induction j with
  | zero => obtain rfl : i = 0 := by omega
            exact Int.le_refl _
  | succ j ih =>
    rcases Nat.lt_or_ge i (j + 1) with h' | h'
    · refine Int.le_trans (ih (by omega)) ?_
      rcases Nat.lt_or_ge j l.length with hj | hj
      · rw [sumN_take l j hj]; have := ok_at h hj; omega
      · rw [List.take_of_length_le hj, List.take_of_length_le (by omega)]; exact Int.le_refl _
    · obtain rfl : i = j + 1 := by omega
      exact Int.le_refl _
/-- chunk k holds the byte at o -/
def LocK (l : List IdZ) (o : Int) (k : Nat) : Prop := k < l.length ∧ sumN (l.take k) ≤ o ∧ o < sumN (l.take (k + 1))
theorem LocK.uniq {l : List IdZ} (h : l.all okId = true) {o : Int} {k k' : Nat} (a : LocK l o k) (b : LocK l o k') : k = k' := by
  obtain ⟨a1, a2, a3⟩ := a
  obtain ⟨b1, b2, b3⟩ := b
  rcases Nat.lt_trichotomy k k' with hlt | heq | hgt
  · have := sumN_mono h (i := k + 1) (j := k') hlt; omega
  · exact heq
  · have := sumN_mono h (i := k' + 1) (j := k) hgt; omega
/-- .. there is one -/
theorem LocK.ex (l : List IdZ) (o : Int) (h0 : 0 ≤ o) : ∀ j, j ≤ l.length → o < sumN (l.take j) → ∃ k, LocK l o k := by
  intro j
  induction j with
  | zero => intro _ h; simp [sumN] at h; omega
  | succ j ih =>
    intro hj h
    by_cases h1 : o < sumN (l.take j)
    · exact ih (by omega) h1
    · exact ⟨j, by omega, by omega, h⟩
/-- the one piece of a byte -/
theorem slK_one {l : List IdZ} (h : l.all okId = true) {o : Int} {k : Nat} (hk : LocK l o k) : slK o (o + 1) l l.length = [(k, o - sumN (l.take k), o - sumN (l.take k) + 1)] := by
  obtain ⟨k1, k2, k3⟩ := hk
  have key : ∀ j, j ≤ l.length → slK o (o + 1) l j = if k < j then [(k, o - sumN (l.take k), o - sumN (l.take k) + 1)] else [] := by
    intro j
    induction j with
    | zero => intro _; simp [slK]
    | succ j ih =>
      intro hj
      have hjl : j < l.length := by omega
      have hn := ok_at h hjl
      have hs := sumN_take l j hjl
      rw [slK_succ hjl, ih (by omega)]
      rcases Nat.lt_trichotomy j k with hlt | heq | hgt
      · rw [if_neg (by omega), if_neg (by omega), pcAt_no rfl rfl]
        · rfl
        · have := sumN_mono h (i := j + 1) (j := k) hlt; omega
      · subst heq
        rw [if_neg (by omega), if_pos (by omega), pcAt_yes (a := o - sumN (l.take j)) (c := o - sumN (l.take j) + 1) (by omega) (by omega) (by omega)]
        rfl
      · rw [if_pos (by omega), if_pos (by omega), pcAt_no rfl rfl, List.append_nil]
        have := sumN_mono h (i := k + 1) (j := j) hgt; omega
  rw [key l.length (Nat.le_refl _), if_pos k1]
/-- the error of Locate -/
def locE (n : Int) (l : List IdZ) (o : Int) : Int := if chkM n l = 0 then (if o < 0 ∨ n ≤ o then 253 else 0) else chkM n l
/-- what Locate returns -/
def LocRes (n : Int) (l : List IdZ) (o : Int) (v : Value) : Prop := if locE n l o = 0 then ∃ k, LocK l o k ∧ v = .tuple #[.int .i64 (k : Nat), .int .i64 (o - sumN (l.take k)), .int .i64 0] else v = .tuple #[.int .i64 0, .int .i64 0, .int .i64 (locE n l o)]
theorem LocRes.no {n : Int} {l : List IdZ} {o e : Int} (he : e ≠ 0) (h : locE n l o = e) : LocRes n l o (.tuple #[.int .i64 0, .int .i64 0, .int .i64 e]) := by unfold LocRes; rw [h, if_neg he]
theorem LocRes.yes {n : Int} {l : List IdZ} {o b : Int} {k : Nat} (h : locE n l o = 0) (hk : LocK l o k) (hb : b = o - sumN (l.take k)) : LocRes n l o (.tuple #[.int .i64 (k : Nat), .int .i64 b, .int .i64 0]) := by unfold LocRes; rw [if_pos h, hb]; exact ⟨k, hk, rfl⟩
theorem LocRes.det {n : Int} {l : List IdZ} {o : Int} {v v' : Value} (h : LocRes n l o v) (h' : LocRes n l o v') : v = v' := by
  unfold LocRes at h h'
  split at h
  · rename_i he
    rw [if_pos he] at h'
    obtain ⟨k, hk, rfl⟩ := h
    obtain ⟨k', hk', rfl⟩ := h'
    have hz : chkM n l = 0 := by
      by_cases hc : chkM n l = 0
      · exact hc
      · unfold locE at he; rw [if_neg hc] at he; exact absurd he hc
    rw [LocK.uniq (chkM_zero hz).2.1 hk hk']
  · rename_i he
    rw [if_neg he] at h'
    rw [h, h']

set_option maxHeartbeats 2000000 in
theorem locate25_any (n : Int) (A : Option Addr) (cap B : Nat) (l : List IdZ) (o : Int) (w : World) (hr : Row w B A (idsC l)) (hB : B ≤ w.heap.size) (hm : l.length ≤ 9223372036854775807) :
    Calls Try.prog 28 #[.agg #[.int .i64 n, .slice A l.length cap], .int .i64 o] w fun e w' => ∃ v, e = .returned v ∧ LocRes n l o v ∧ Below w.heap.size w w' := by
  have g0 := grew_alloc w (.cells #[.int .i64 n, .slice A l.length cap] 31)
  have hC := Blk.new w 31 #[.int .i64 n, .slice A l.length cap]
  have c0 : (w.alloc (.cells #[.int .i64 n, .slice A l.length cap] 31)).cell? ⟨w.heap.size, 0, none⟩ = some (.int .i64 n) := (hC.cell 0).trans rfl
  have c1 : (w.alloc (.cells #[.int .i64 n, .slice A l.length cap] 31)).cell? ⟨w.heap.size, 1, none⟩ = some (.slice A l.length cap) := (hC.cell 1).trans rfl
  have hr0 := hr.below g0 hB
  have hB0 := Nat.le_trans hB g0.size
  have HC := Lib.hid (check25_any n A cap B l _ hr0 hB0 hm)
  go_enter Try.func28, Try.ntmps28
  go_wp2_with fail
  clear hC
  generalize w.alloc (.cells #[.int .i64 n, .slice A l.length cap] 31) = w1 at *
  generalize hgc : w.heap.size = gc at *
  have HGc := Lib.hid hgc
  clear hgc
  refine HC.out.mono ?_
  rintro e w2 ⟨rfl, hb⟩
  replace c0 := cell_up hb c0
  replace c1 := cell_up hb c1
  replace hr0 := hr0.below hb hB0
  replace g0 := Grew.trans g0 hb
  clear hb HC
  by_cases he : chkM n l = 0
  · obtain ⟨q1, q2, q3, q4⟩ := chkM_zero he
    rw [he]
    by_cases hrg : o < 0 ∨ n ≤ o
    · have HE := Lib.hid (show locE n l o = 253 by unfold locE; rw [if_pos he, if_pos hrg])
      clear he
      rcases (by omega : o < 0 ∨ (0 ≤ o ∧ n ≤ o)) with h | ⟨h, h'⟩
      all_goals
        clear hrg
        go_wp2_with fail
        go_ret3
        exact ⟨_, rfl, LocRes.no (by decide) HE.out, g0⟩
    · have HE := Lib.hid (show locE n l o = 0 by unfold locE; rw [if_pos he, if_neg hrg])
      have r1 : 0 ≤ o := by omega
      have r2 : o < n := by omega
      obtain ⟨K, hK⟩ := LocK.ex l o r1 l.length (Nat.le_refl _) (by rw [List.take_length, ← q3]; exact r2)
      have HK := Lib.hid hK
      have HA := Lib.hid q2
      have hKl := hK.1
      have r3 : n ≤ 1048576 := by rw [q3]; exact q4
      clear he hrg q2 q3 hK
      go_wp2_with fail
      go_loop [1, 4] (fun v i => ∃ k : Nat, k ≤ K ∧ i = .int .i64 k ∧ v = .int .i64 (o - sumN (l.take k))) (fun _ i => l.length - (intOf i).toNat)
      case atStart => exact ⟨0, Nat.zero_le _, rfl, by simp [sumN]⟩
      case round =>
        obtain ⟨k, hk, rfl, rfl⟩ := hrel
        have hlt : k < l.length := by omega
        obtain ⟨ad, rfl, hbl, d0, d1⟩ := ids_at hr0 hlt
        have hst := sumN_take l k hlt
        have hok := ok_at HA.out hlt
        have hs0 := (sumN_bd (l.take k) (all_prefix l k HA.out)).1
        have hsk := sumN_mono HA.out hk
        have hk2 := HK.out.2.1
        have hk3 := HK.out.2.2
        have hnx : k < K → sumN (l.take (k + 1)) ≤ sumN (l.take K) := fun h => sumN_mono HA.out h
        have hq4 := q4
        generalize l[k] = x at *
        obtain ⟨xs, xn⟩ := x
        simp only at d0 d1 hst hok
        have HST := Lib.hid hst
        rw [hst] at hnx
        by_cases hkK : k < K
        · have hge : xn ≤ o - sumN (l.take k) := by have := hnx hkK; omega
          clear hst hnx
          generalize sumN (l.take k) = sm at *
          generalize sumN (l.take K) = sK at *
          generalize sumN (l.take (K + 1)) = sK1 at *
          go_wp2_with fail
          go_round
          case rel => exact ⟨k + 1, by omega, by go_num, by rw [HST.out]; go_num⟩
          case measure => simp [intOf]; omega
        · obtain rfl : k = K := by omega
          rw [hst] at hk3
          have hlt2 : o - sumN (l.take k) < xn := by omega
          have HP : Hid (o - sumN (l.take k) = o - sumN (l.take k)) := Lib.hid rfl
          generalize hsm : o - sumN (l.take k) = sm at *
          have HSM := Lib.hid hsm
          clear hst hnx hsm
          go_wp2_with fail
          go_ret3
          exact ⟨_, rfl, LocRes.yes HE.out HK.out HSM.out.symm, g0⟩
  · have HE := Lib.hid (show locE n l o = chkM n l by unfold locE; rw [if_neg he])
    have HN := Lib.hid he
    have hne : (chkM n l != 0) = true := by rw [bne_iff_ne]; exact he
    clear he
    generalize chkM n l = er at *
    go_wp2_with fail
    go_ret3
    exact ⟨_, rfl, LocRes.no HN.out HE.out, g0⟩

set_option maxHeartbeats 2000000 in
theorem refLocate25_any (n : Int) (A : Option Addr) (cap B : Nat) (l : List IdZ) (o : Int) (w : World) (hr : Row w B A (idsC l)) (hB : B ≤ w.heap.size) (hm : l.length ≤ 9223372036854775807) :
    Calls Try.prog 29 #[.agg #[.int .i64 n, .slice A l.length cap], .int .i64 o] w fun e w' => ∃ v, e = .returned v ∧ LocRes n l o v ∧ Below w.heap.size w w' := by
  have g0 := grew_alloc w (.cells #[.int .i64 n, .slice A l.length cap] 31)
  have hC := Blk.new w 31 #[.int .i64 n, .slice A l.length cap]
  have c0 : (w.alloc (.cells #[.int .i64 n, .slice A l.length cap] 31)).cell? ⟨w.heap.size, 0, none⟩ = some (.int .i64 n) := (hC.cell 0).trans rfl
  have c1 : (w.alloc (.cells #[.int .i64 n, .slice A l.length cap] 31)).cell? ⟨w.heap.size, 1, none⟩ = some (.slice A l.length cap) := (hC.cell 1).trans rfl
  have hr0 := hr.below g0 hB
  have hB0 := Nat.le_trans hB g0.size
  have HC := Lib.hid (refCheck25_any n A cap B l _ hr0 hB0 hm)
  go_enter Try.func29, Try.ntmps29
  go_wp2_with fail
  clear hC
  generalize w.alloc (.cells #[.int .i64 n, .slice A l.length cap] 31) = w1 at *
  generalize hgc : w.heap.size = gc at *
  have HGc := Lib.hid hgc
  clear hgc
  refine HC.out.mono ?_
  rintro e w2 ⟨rfl, hb⟩
  replace c0 := cell_up hb c0
  replace c1 := cell_up hb c1
  replace hr0 := hr0.below hb hB0
  replace hB0 := Nat.le_trans hB0 hb.size
  replace g0 := Grew.trans g0 hb
  clear hb HC
  by_cases he : chkM n l = 0
  · obtain ⟨q1, q2, q3, q4⟩ := chkM_zero he
    rw [he]
    by_cases hrg : o < 0 ∨ n ≤ o
    · have HE := Lib.hid (show locE n l o = 253 by unfold locE; rw [if_pos he, if_pos hrg])
      clear he
      rcases (by omega : o < 0 ∨ (0 ≤ o ∧ n ≤ o)) with h | ⟨h, h'⟩
      all_goals
        clear hrg
        go_wp2_with fail
        go_ret3
        exact ⟨_, rfl, LocRes.no (by decide) HE.out, g0⟩
    · have HE := Lib.hid (show locE n l o = 0 by unfold locE; rw [if_pos he, if_neg hrg])
      have r1 : 0 ≤ o := by omega
      have r2 : o < n := by omega
      have r3 : n ≤ 1048576 := by rw [q3]; exact q4
      obtain ⟨K, hK⟩ := LocK.ex l o r1 l.length (Nat.le_refl _) (by rw [List.take_length, ← q3]; exact r2)
      have HK := Lib.hid hK
      have hE2 : slE n l o (o + 1) = 0 := by unfold slE; rw [if_pos he, if_neg (by omega)]
      have hL2 : slL n l o (o + 1) = [(K, o - sumN (l.take K), o - sumN (l.take K) + 1)] := by unfold slL; rw [if_pos hE2, slK_one q2 hK]
      have HSl := Lib.hid (refSlice25_any n A cap B l o (o + 1) w2 hr0 hB0 hm)
      rw [hE2, hL2] at HSl
      have hKl := hK.1
      clear he hrg q2 q3 hK hE2 hL2
      go_wp2_with fail
      refine HSl.out.mono ?_
      rintro e w3 ⟨A3, c3, rfl, hown, hb⟩
      have hrow := own_row hown
      obtain ⟨ad, rfl, hbl, d0⟩ := hrow.at_ (k := 0) (by simp [pcsC, pcC])
      obtain ⟨ad2, e2, _, d1⟩ := hrow.at_ (k := 1) (by simp [pcsC, pcC])
      obtain rfl : ad = ad2 := by injection e2
      have hg3 := Grew.trans g0 hb
      have d0' : w3.cell? ad = some (.int .i64 (K : Nat)) := d0
      have d1' : w3.cell? ⟨ad.block, ad.off + 1, none⟩ = some (.int .i64 (o - sumN (l.take K))) := d1
      have HP := Lib.hid (show o - sumN (l.take K) = o - sumN (l.take K) from by kernel_rfl)
      generalize hsm : o - sumN (l.take K) = sm at *
      have HSM := Lib.hid hsm
      clear d0 d1 hrow hown hb HSl hsm HP
      go_wp2_with fail
      refine wp_region_g 10 (by kernel_rfl) ?_
      refine AllC.head 0 10 (fuel := 1) (by first | exact fun h k => Grew.trans h k | exact fun h k => cls_grew h k) (grew_drew _) (by rfl) (by kernel_rfl) ?_
      simp only [List.take_succ_cons, List.take_zero, List.drop_succ_cons, List.drop_zero]
      repeat (first
        | (refine HeadC.val (by rfl) ?_
           apply Exists.intro
           refine ⟨fun w' hw' => ?_, ?_⟩
           · (have hf_0 := cell_up hw' d0'; have hf_1 := cell_up hw' d1'; (go_simp) <;> (try go_ints) <;> with_reducible rfl)
           try simp only [Act.put, List.setIfInBounds_toArray, List.set_cons_zero, List.set_cons_succ])
        | (refine HeadC.shut (by rfl) ?_
           try simp only [Act.put, List.setIfInBounds_toArray, List.set_cons_zero, List.set_cons_succ]))
      refine HeadC.nil ?_
      refine AllC.tail 10 (by rfl) (by kernel_rfl) ?_
      intro wt hwt
      simp only [List.drop_succ_cons, List.drop_zero]
      have hg4 := (grew_drew w3).trans hwt
      go_wp2_with fail
      go_ret3
      exact ⟨_, rfl, LocRes.yes HE.out HK.out HSM.out.symm, Grew.trans hg3 hg4⟩
  · have HE := Lib.hid (show locE n l o = chkM n l by unfold locE; rw [if_neg he])
    have HN := Lib.hid he
    have hne : (chkM n l != 0) = true := by rw [bne_iff_ne]; exact he
    clear he
    generalize chkM n l = er at *
    go_wp2_with fail
    go_ret3
    exact ⟨_, rfl, LocRes.no HN.out HE.out, g0⟩

end Go.Proofs.Ytnjhipnfhapngaa
