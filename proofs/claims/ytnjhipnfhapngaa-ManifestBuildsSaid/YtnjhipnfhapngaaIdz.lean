/-
  Lists of IDs as rows of cells; when a manifest is valid; manifest.Check and the reference's Check.
-/
import Derived.Test.YtnjhipnfhapngaaRegC
import Derived.Test.YtnjhipnfhapngaaIds
import Derived.Test.YtnjhipnfhapngaaOwn
namespace Go.Proofs.Ytnjhipnfhapngaa
set_option linter.unusedVariables false
set_option linter.unusedSimpArgs false
set_option linter.unnecessarySimpa false
open Go.RowKit
attribute [local go_sem ↓] Go.wp_at_zero Go.wp_at_succ

/-- an ID: its fingerprint, its length -/
abbrev IdZ := Int × Int
theorem id_ne {a b c d : Int} (h : ¬ ((a, b) : IdZ) = (c, d)) : (¬ a = c) ∨ (a = c ∧ ¬ b = d) := by
  by_cases h0 : a = c
  · exact .inr ⟨h0, fun h1 => h (by rw [h0, h1])⟩
  · exact .inl h0
def idC (x : IdZ) : List Value := [.int .u64 x.1, .int .i64 x.2]
def idV (x : IdZ) : Value := .agg #[.int .u64 x.1, .int .i64 x.2]
def idsC (l : List IdZ) : List Value := l.flatMap idC
theorem idsC_len (l : List IdZ) : (idsC l).length = l.length * 2 := by
  induction l with
  | nil => rfl
  | cons x l ih => simp only [idsC, List.flatMap_cons, List.length_append, List.length_cons] at ih ⊢; rw [ih]; simp [idC]; omega
theorem idsC_append (l m : List IdZ) : idsC (l ++ m) = idsC l ++ idsC m := by simp [idsC]
theorem idsC_get (l : List IdZ) : ∀ k (h : k < l.length), (idsC l)[k * 2]? = some (.int .u64 l[k].1) ∧ (idsC l)[k * 2 + 1]? = some (.int .i64 l[k].2) := by
  induction l with
  | nil => intro k h; simp at h
  | cons x l ih =>
    intro k h
    cases k with
    | zero => exact ⟨rfl, rfl⟩
    | succ k =>
      have hk : k < l.length := by simpa using h
      obtain ⟨h0, h1⟩ := ih k hk
      have e : idsC (x :: l) = .int .u64 x.1 :: .int .i64 x.2 :: idsC l := rfl
      rw [e, show (k + 1) * 2 = k * 2 + 1 + 1 by omega]
      exact ⟨by simpa using h0, by simpa using h1⟩
theorem ones_ids (l : List IdZ) : ∀ u ∈ idsC l, u.oneCell' = true := by
  intro u hu
  obtain ⟨x, _, hx⟩ := List.mem_flatMap.1 hu
  simp only [idC, List.mem_cons, List.not_mem_nil, or_false] at hx
  rcases hx with rfl | rfl <;> rfl
/-- element k of a row of IDs -/
theorem ids_at {w : World} {B : Nat} {A : Option Addr} {l : List IdZ} (hr : Row w B A (idsC l)) {k : Nat} (h : k < l.length) :
    ∃ ad : Addr, A = some ad ∧ ad.block < B ∧ w.cell? (ad.add (k * 2)) = some (.int .u64 l[k].1) ∧ w.cell? ⟨(ad.add (k * 2)).block, (ad.add (k * 2)).off + 1, none⟩ = some (.int .i64 l[k].2) := by
  obtain ⟨g0, g1⟩ := idsC_get l k h
  have hl := idsC_len l
  obtain ⟨ad, rfl, hb, hc⟩ := hr.at_ (k := k * 2) (by omega)
  obtain ⟨ad2, e, _, hc2⟩ := hr.at_ (k := k * 2 + 1) (by omega)
  obtain rfl : ad = ad2 := by injection e
  rw [List.getElem?_eq_getElem (by omega)] at g0 g1
  have e1 : (⟨(ad.add (k * 2)).block, (ad.add (k * 2)).off + 1, none⟩ : Addr) = ad.add (k * 2 + 1) := add_add ad (k * 2) 1
  exact ⟨ad, rfl, hb, hc.trans g0, by rw [e1]; exact hc2.trans g1⟩

/-- can it be the ID of a chunk? -/
def okId (x : IdZ) : Bool := vldB x.1 x.2 && (decide (1 ≤ x.2) && decide (x.2 ≤ 8192))
def sumN (l : List IdZ) : Int := (l.map (·.2)).sum
theorem sumN_take (l : List IdZ) (k : Nat) (h : k < l.length) : sumN (l.take (k + 1)) = sumN (l.take k) + l[k].2 := by
  unfold sumN
  rw [List.take_succ_eq_append_getElem h, List.map_append, List.sum_append]
  simp
theorem sumN_bd (l : List IdZ) (h : l.all okId = true) : 0 ≤ sumN l ∧ sumN l ≤ 8192 * l.length := by
  induction l with
  | nil => simp [sumN]
  | cons x l ih =>
    rw [List.all_cons, Bool.and_eq_true] at h
    obtain ⟨h1, h2⟩ := ih h.2
    have hx := h.1
    unfold okId at hx
    simp only [Bool.and_eq_true, decide_eq_true_eq] at hx
    simp only [sumN, List.map_cons, List.sum_cons, List.length_cons] at h1 h2 ⊢
    omega
/-- the error of a manifest -/
def chkM (n : Int) (l : List IdZ) : Int := if 1024 < l.length then 251 else if l.all okId = true then (if n = sumN l ∧ sumN l ≤ 1048576 then 0 else 252) else 250
theorem chkM_count {n : Int} {l : List IdZ} (h : 1024 < l.length) : 251 = chkM n l := by unfold chkM; rw [if_pos h]
theorem chkM_chunk {n : Int} {l : List IdZ} (h : ¬ 1024 < l.length) {k : Nat} (hk : k < l.length) (hx : okId l[k] = false) : 250 = chkM n l := by
  unfold chkM
  rw [if_neg h, if_neg]
  intro ha
  have := List.all_eq_true.1 ha _ (List.getElem_mem hk)
  rw [hx] at this; cases this
theorem chkM_size {n : Int} {l : List IdZ} (h : ¬ 1024 < l.length) (ha : l.all okId = true) (hn : ¬ (n = sumN l ∧ sumN l ≤ 1048576)) : 252 = chkM n l := by unfold chkM; rw [if_neg h, if_pos ha, if_neg hn]
theorem chkM_ok {n : Int} {l : List IdZ} (h : ¬ 1024 < l.length) (ha : l.all okId = true) (h1 : n = sumN l) (h2 : sumN l ≤ 1048576) : 0 = chkM n l := by unfold chkM; rw [if_neg h, if_pos ha, if_pos ⟨h1, h2⟩]
theorem chkM_zero {n : Int} {l : List IdZ} (h : chkM n l = 0) : l.length ≤ 1024 ∧ l.all okId = true ∧ n = sumN l ∧ sumN l ≤ 1048576 := by
  unfold chkM at h
  split at h
  · cases h
  · split at h
    · split at h
      · rename_i h1 h2 h3
        exact ⟨by omega, h2, h3.1, h3.2⟩
      · cases h
    · cases h
theorem all_take (l : List IdZ) (k : Nat) (h : k < l.length) (ha : (l.take k).all okId = true) (hx : okId l[k] = true) : (l.take (k + 1)).all okId = true := by
  rw [List.take_succ_eq_append_getElem h, List.all_append, ha]
  simp [hx]

/-- a manifest by value -/
def manV (n : Int) (A : Option Addr) (k cap : Nat) : Value := .agg #[.int .i64 n, .slice A k cap]

set_option maxHeartbeats 2000000 in
theorem check25_any (n : Int) (A : Option Addr) (cap B : Nat) (l : List IdZ) (w : World) (hr : Row w B A (idsC l)) (hB : B ≤ w.heap.size) (hm : l.length ≤ 9223372036854775807) :
    Calls Try.prog 45 #[.agg #[.int .i64 n, .slice A l.length cap]] w fun e w' => e = .returned (.int .i64 (chkM n l)) ∧ Below w.heap.size w w' := by
  have g0 := grew_alloc w (.cells #[.int .i64 n, .slice A l.length cap] 31)
  have hC := Blk.new w 31 #[.int .i64 n, .slice A l.length cap]
  have c0 : (w.alloc (.cells #[.int .i64 n, .slice A l.length cap] 31)).cell? ⟨w.heap.size, 0, none⟩ = some (.int .i64 n) := (hC.cell 0).trans rfl
  have c1 : (w.alloc (.cells #[.int .i64 n, .slice A l.length cap] 31)).cell? ⟨w.heap.size, 1, none⟩ = some (.slice A l.length cap) := (hC.cell 1).trans rfl
  have hr0 := hr.below g0 hB
  have hB0 := Nat.le_trans hB g0.size
  by_cases hl : 1024 < l.length
  · have hlI : (1024 : Int) < (l.length : Int) := by omega
    go_enter Try.func45, Try.ntmps45
    go_wp2_with fail
    go_ret
    exact ⟨ret_i64 (chkM_count hl), g0⟩
  · have hlI : ¬ (1024 : Int) < (l.length : Int) := by omega
    go_enter Try.func45, Try.ntmps45
    go_wp2_with fail
    clear hC
    generalize w.alloc (.cells #[.int .i64 n, .slice A l.length cap] 31) = w1 at *
    generalize hgc : w.heap.size = gc at *
    have HGc := Lib.hid hgc
    clear hgc
    go_loopw [3, 13] (fun s i wr => (∃ k : Nat, k ≤ l.length ∧ i = .int .i64 k ∧ s = .int .i64 (sumN (l.take k)) ∧ Hid ((l.take k).all okId = true)) ∧ Grew w1 wr) (fun _ i _ => l.length - (intOf i).toNat)
    case atStart => exact ⟨⟨0, Nat.zero_le _, rfl, rfl, Lib.hid rfl⟩, Grew.refl _⟩
    case round =>
      obtain ⟨⟨k, hk, rfl, rfl, HA⟩, hb⟩ := hrel
      have c0r := cell_up hb c0
      have c1r := cell_up hb c1
      have hsb := sumN_bd _ HA.out
      have hlt' : (l.take k).length ≤ k := List.length_take_le _ _
      by_cases hlt : k < l.length
      · obtain ⟨ad, rfl, hbl, d0, d1⟩ := ids_at (hr0.up hb hB0) hlt
        have hst := sumN_take l k hlt
        have hAs := all_take l k hlt HA.out
        have HBad := Lib.hid (fun h => chkM_chunk (n := n) (l := l) hl hlt h)
        clear c0
        generalize l[k] = x at *
        obtain ⟨xs, xn⟩ := x
        simp only at d0 d1 hst
        have HST := Lib.hid hst
        clear hst
        generalize sumN (l.take k) = sm at *
        have hv0 : Grew wr (wr.alloc (.cells #[.int .u64 xs, .int .i64 xn] 51)) := grew_alloc _ _
        have hX := Blk.new wr 51 #[.int .u64 xs, .int .i64 xn]
        by_cases hv : vldB xs xn = true
        · have HV := Lib.hid (fun W => valid_any xs xn W)
          rw [hv] at HV
          by_cases ha : 1 ≤ xn ∧ xn ≤ 8192
          · obtain ⟨ha, hb2⟩ := ha
            have hok : okId (xs, xn) = true := by unfold okId; simp [hv, ha, hb2]
            have HA2 := Lib.hid (hAs hok)
            clear hAs hok hv
            go_wp2_with fail
            refine (HV.out _).mono ?_
            rintro e w2 ⟨rfl, hbb⟩
            have hX2 := hX.of hbb
            have e1 : w2.cell? ⟨wr.heap.size, 1, none⟩ = some (.int .i64 xn) := (hX2.cell 1).trans rfl
            have hb3 : Grew w1 w2 := (Grew.trans hb hv0).trans hbb
            clear hX hX2 hbb HV
            go_wp2_with fail
            go_roundw
            case rel => exact ⟨⟨k + 1, by omega, by go_num, by rw [HST.out], HA2⟩, hb3⟩
            case measure => simp [intOf]; omega
          · have hok : okId (xs, xn) = false := by
              unfold okId
              rw [Bool.and_eq_false_iff]; right
              rw [Bool.and_eq_false_iff, decide_eq_false_iff_not, decide_eq_false_iff_not]
              omega
            have HBd := Lib.hid (HBad.out hok)
            clear hAs hok hv HBad
            by_cases ha1 : xn < 1
            · clear ha
              go_wp2_with fail
              refine (HV.out _).mono ?_
              rintro e w2 ⟨rfl, hbb⟩
              have hX2 := hX.of hbb
              have e1 : w2.cell? ⟨wr.heap.size, 1, none⟩ = some (.int .i64 xn) := (hX2.cell 1).trans rfl
              have hb3 : Grew w1 w2 := (Grew.trans hb hv0).trans hbb
              clear hX hX2 hbb HV
              go_wp2_with fail
              go_ret
              exact ⟨ret_i64 HBd.out, Grew.trans g0 hb3⟩
            · have ha2 : 8192 < xn := by omega
              clear ha
              go_wp2_with fail
              refine (HV.out _).mono ?_
              rintro e w2 ⟨rfl, hbb⟩
              have hX2 := hX.of hbb
              have e1 : w2.cell? ⟨wr.heap.size, 1, none⟩ = some (.int .i64 xn) := (hX2.cell 1).trans rfl
              have hb3 : Grew w1 w2 := (Grew.trans hb hv0).trans hbb
              clear hX hX2 hbb HV
              go_wp2_with fail
              go_ret
              exact ⟨ret_i64 HBd.out, Grew.trans g0 hb3⟩
        · have hv' : vldB xs xn = false := by simpa using hv
          have HV := Lib.hid (fun W => valid_any xs xn W)
          rw [hv'] at HV
          have HBd := Lib.hid (HBad.out (by unfold okId; rw [hv']; rfl))
          clear hv hv' hAs HBad
          go_wp2_with fail
          refine (HV.out _).mono ?_
          rintro e w2 ⟨rfl, hbb⟩
          have hb3 : Grew w1 w2 := (Grew.trans hb hv0).trans hbb
          clear hX hbb HV
          go_wp2_with fail
          go_ret
          exact ⟨ret_i64 HBd.out, Grew.trans g0 hb3⟩
      · obtain rfl : k = l.length := by omega
        rw [List.take_length] at HA hsb ⊢
        by_cases he : n = sumN l
        · rw [← he] at hsb ⊢
          by_cases he2 : 1048576 < n
          · have HBd := Lib.hid (chkM_size (n := n) (l := l) hl HA.out (by omega))
            clear he
            go_wp2_with fail
            go_ret
            exact ⟨ret_i64 HBd.out, Grew.trans g0 hb⟩
          · have HBd := Lib.hid (chkM_ok (n := n) (l := l) hl HA.out he (by omega))
            clear he
            go_wp2_with fail
            go_ret
            exact ⟨ret_i64 HBd.out, Grew.trans g0 hb⟩
        · have HBd := Lib.hid (chkM_size (n := n) (l := l) hl HA.out (fun h => he h.1))
          have hne : (n != sumN l) = true := by rw [bne_iff_ne]; exact he
          clear he
          generalize sumN l = sm at *
          go_wp2_with fail
          go_ret
          exact ⟨ret_i64 HBd.out, Grew.trans g0 hb⟩

set_option maxHeartbeats 2000000 in
theorem refCheck25_any (n : Int) (A : Option Addr) (cap B : Nat) (l : List IdZ) (w : World) (hr : Row w B A (idsC l)) (hB : B ≤ w.heap.size) (hm : l.length ≤ 9223372036854775807) :
    Calls Try.prog 44 #[.agg #[.int .i64 n, .slice A l.length cap]] w fun e w' => e = .returned (.int .i64 (chkM n l)) ∧ Below w.heap.size w w' := by
  have g0 := grew_alloc w (.cells #[.int .i64 n, .slice A l.length cap] 31)
  have hC := Blk.new w 31 #[.int .i64 n, .slice A l.length cap]
  have c0 : (w.alloc (.cells #[.int .i64 n, .slice A l.length cap] 31)).cell? ⟨w.heap.size, 0, none⟩ = some (.int .i64 n) := (hC.cell 0).trans rfl
  have c1 : (w.alloc (.cells #[.int .i64 n, .slice A l.length cap] 31)).cell? ⟨w.heap.size, 1, none⟩ = some (.slice A l.length cap) := (hC.cell 1).trans rfl
  have hr0 := hr.below g0 hB
  have hB0 := Nat.le_trans hB g0.size
  by_cases hl : 1024 < l.length
  · have hlI : (1024 : Int) < (l.length : Int) := by omega
    go_enter Try.func44, Try.ntmps44
    go_wp2_with fail
    go_ret
    exact ⟨ret_i64 (chkM_count hl), g0⟩
  · have hlI : ¬ (1024 : Int) < (l.length : Int) := by omega
    go_enter Try.func44, Try.ntmps44
    go_wp2_with fail
    clear hC
    generalize w.alloc (.cells #[.int .i64 n, .slice A l.length cap] 31) = w1 at *
    generalize hgc : w.heap.size = gc at *
    have HGc := Lib.hid hgc
    clear hgc
    go_loopw [3, 4] (fun s i wr => (∃ k : Nat, k ≤ l.length ∧ i = .int .i64 k ∧ s = .int .i64 (sumN (l.take k)) ∧ Hid ((l.take k).all okId = true)) ∧ Grew w1 wr) (fun _ i _ => l.length - (intOf i).toNat)
    case atStart => exact ⟨⟨0, Nat.zero_le _, rfl, rfl, Lib.hid rfl⟩, Grew.refl _⟩
    case round =>
      obtain ⟨⟨k, hk, rfl, rfl, HA⟩, hb⟩ := hrel
      have c0r := cell_up hb c0
      have c1r := cell_up hb c1
      have hsb := sumN_bd _ HA.out
      have hlt' : (l.take k).length ≤ k := List.length_take_le _ _
      by_cases hlt : k < l.length
      · obtain ⟨ad, rfl, hbl, d0, d1⟩ := ids_at (hr0.up hb hB0) hlt
        have hst := sumN_take l k hlt
        have hAs := all_take l k hlt HA.out
        have HBad := Lib.hid (fun h => chkM_chunk (n := n) (l := l) hl hlt h)
        clear c0
        generalize l[k] = x at *
        obtain ⟨xs, xn⟩ := x
        simp only at d0 d1 hst
        have HST := Lib.hid hst
        clear hst
        generalize sumN (l.take k) = sm at *
        have hv0 : Grew wr (wr.alloc (.cells #[.int .u64 xs, .int .i64 xn] 51)) := grew_alloc _ _
        have hX := Blk.new wr 51 #[.int .u64 xs, .int .i64 xn]
        by_cases hv : vldB xs xn = true
        · have HV := Lib.hid (fun W => refValid_any xs xn W)
          rw [hv] at HV
          by_cases ha : 1 ≤ xn ∧ xn ≤ 8192
          · obtain ⟨ha, hb2⟩ := ha
            have hok : okId (xs, xn) = true := by unfold okId; simp [hv, ha, hb2]
            have HA2 := Lib.hid (hAs hok)
            clear hAs hok hv
            go_wp2_with fail
            refine (HV.out _).mono ?_
            rintro e w2 ⟨rfl, hbb⟩
            have hX2 := hX.of hbb
            have e1 : w2.cell? ⟨wr.heap.size, 1, none⟩ = some (.int .i64 xn) := (hX2.cell 1).trans rfl
            have hb3 : Grew w1 w2 := (Grew.trans hb hv0).trans hbb
            clear hX hX2 hbb HV
            go_wp2_with fail
            go_roundw
            case rel => exact ⟨⟨k + 1, by omega, by go_num, by rw [HST.out], HA2⟩, hb3⟩
            case measure => simp [intOf]; omega
          · have hok : okId (xs, xn) = false := by
              unfold okId
              rw [Bool.and_eq_false_iff]; right
              rw [Bool.and_eq_false_iff, decide_eq_false_iff_not, decide_eq_false_iff_not]
              omega
            have HBd := Lib.hid (HBad.out hok)
            clear hAs hok hv HBad
            by_cases ha1 : xn < 1
            · clear ha
              go_wp2_with fail
              refine (HV.out _).mono ?_
              rintro e w2 ⟨rfl, hbb⟩
              have hX2 := hX.of hbb
              have e1 : w2.cell? ⟨wr.heap.size, 1, none⟩ = some (.int .i64 xn) := (hX2.cell 1).trans rfl
              have hb3 : Grew w1 w2 := (Grew.trans hb hv0).trans hbb
              clear hX hX2 hbb HV
              go_wp2_with fail
              go_ret
              exact ⟨ret_i64 HBd.out, Grew.trans g0 hb3⟩
            · have ha2 : 8192 < xn := by omega
              clear ha
              go_wp2_with fail
              refine (HV.out _).mono ?_
              rintro e w2 ⟨rfl, hbb⟩
              have hX2 := hX.of hbb
              have e1 : w2.cell? ⟨wr.heap.size, 1, none⟩ = some (.int .i64 xn) := (hX2.cell 1).trans rfl
              have hb3 : Grew w1 w2 := (Grew.trans hb hv0).trans hbb
              clear hX hX2 hbb HV
              go_wp2_with fail
              go_ret
              exact ⟨ret_i64 HBd.out, Grew.trans g0 hb3⟩
        · have hv' : vldB xs xn = false := by simpa using hv
          have HV := Lib.hid (fun W => refValid_any xs xn W)
          rw [hv'] at HV
          have HBd := Lib.hid (HBad.out (by unfold okId; rw [hv']; rfl))
          clear hv hv' hAs HBad
          go_wp2_with fail
          refine (HV.out _).mono ?_
          rintro e w2 ⟨rfl, hbb⟩
          have hb3 : Grew w1 w2 := (Grew.trans hb hv0).trans hbb
          clear hX hbb HV
          go_wp2_with fail
          go_ret
          exact ⟨ret_i64 HBd.out, Grew.trans g0 hb3⟩
      · obtain rfl : k = l.length := by omega
        rw [List.take_length] at HA hsb ⊢
        by_cases he : n = sumN l
        · rw [← he] at hsb ⊢
          by_cases he2 : 1048576 < n
          · have HBd := Lib.hid (chkM_size (n := n) (l := l) hl HA.out (by omega))
            clear he
            go_wp2_with fail
            go_ret
            exact ⟨ret_i64 HBd.out, Grew.trans g0 hb⟩
          · have HBd := Lib.hid (chkM_ok (n := n) (l := l) hl HA.out he (by omega))
            clear he
            go_wp2_with fail
            go_ret
            exact ⟨ret_i64 HBd.out, Grew.trans g0 hb⟩
        · have HBd := Lib.hid (chkM_size (n := n) (l := l) hl HA.out (fun h => he h.1))
          have hne : (n != sumN l) = true := by rw [bne_iff_ne]; exact he
          clear he
          generalize sumN l = sm at *
          go_wp2_with fail
          go_ret
          exact ⟨ret_i64 HBd.out, Grew.trans g0 hb⟩

end Go.Proofs.Ytnjhipnfhapngaa
