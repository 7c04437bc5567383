/-
  Idz, Map.
-/
import Derived.Test.YtpoiejgoongllaaRegC
import Derived.Test.YtpoiejgoongllaaReg0
import Derived.Test.YtpoiejgoongllaaRows
import Derived.Maps.OwnSet
import Derived.DeepKeys4
namespace Go.Proofs.Ytpoiejgoongllaa
/- Idz:
  Lists of IDs as rows of cells; when a manifest is valid; manifest.Check and the reference's Check.
-/
section
set_option linter.unusedVariables false
set_option linter.unusedSimpArgs false
set_option linter.unnecessarySimpa false
open Go.RowKit
attribute [local go_sem ↓] Go.wp_at_zero Go.wp_at_succ

/-- an ID: its fingerprint, its length -/
abbrev IdZ := Int × Int
theorem id_ne {a b c d : Int} (h : ¬ ((a, b) : IdZ) = (c, d)) : (¬ a = c) ∨ (a = c ∧ ¬ b = d) := by
  by_cases h0 : a = c
  · exact .inr ⟨h0, fun h1 => h (by rw [h0, h1])⟩
  · exact .inl h0
def idC (x : IdZ) : List Value := [.int .u64 x.1, .int .i64 x.2]
def idV (x : IdZ) : Value := .agg #[.int .u64 x.1, .int .i64 x.2]
def idsC (l : List IdZ) : List Value := l.flatMap idC
theorem idsC_len (l : List IdZ) : (idsC l).length = l.length * 2 := by
  induction l with
  | nil => rfl
  | cons x l ih => simp only [idsC, List.flatMap_cons, List.length_append, List.length_cons] at ih ⊢; rw [ih]; simp [idC]; omega
theorem idsC_append (l m : List IdZ) : idsC (l ++ m) = idsC l ++ idsC m := by simp [idsC]
theorem idsC_get (l : List IdZ) : ∀ k (h : k < l.length), (idsC l)[k * 2]? = some (.int .u64 l[k].1) ∧ (idsC l)[k * 2 + 1]? = some (.int .i64 l[k].2) := by
  induction l with
  | nil => intro k h; simp at h
  | cons x l ih =>
    intro k h
    cases k with
    | zero => exact ⟨rfl, rfl⟩
    | succ k =>
      have hk : k < l.length := by simpa using h
      obtain ⟨h0, h1⟩ := ih k hk
      have e : idsC (x :: l) = .int .u64 x.1 :: .int .i64 x.2 :: idsC l := rfl
      rw [e, show (k + 1) * 2 = k * 2 + 1 + 1 by omega]
      exact ⟨by simpa using h0, by simpa using h1⟩
theorem ones_ids (l : List IdZ) : ∀ u ∈ idsC l, u.oneCell' = true := by
  intro u hu
  obtain ⟨x, _, hx⟩ := List.mem_flatMap.1 hu
  simp only [idC, List.mem_cons, List.not_mem_nil, or_false] at hx
  rcases hx with rfl | rfl <;> rfl
/-- element k of a row of IDs -/
theorem ids_at {w : World} {B : Nat} {A : Option Addr} {l : List IdZ} (hr : Row w B A (idsC l)) {k : Nat} (h : k < l.length) :
    ∃ ad : Addr, A = some ad ∧ ad.block < B ∧ w.cell? (ad.add (k * 2)) = some (.int .u64 l[k].1) ∧ w.cell? ⟨(ad.add (k * 2)).block, (ad.add (k * 2)).off + 1, none⟩ = some (.int .i64 l[k].2) := by
  obtain ⟨g0, g1⟩ := idsC_get l k h
  have hl := idsC_len l
  obtain ⟨ad, rfl, hb, hc⟩ := hr.at_ (k := k * 2) (by omega)
  obtain ⟨ad2, e, _, hc2⟩ := hr.at_ (k := k * 2 + 1) (by omega)
  obtain rfl : ad = ad2 := by injection e
  rw [List.getElem?_eq_getElem (by omega)] at g0 g1
  have e1 : (⟨(ad.add (k * 2)).block, (ad.add (k * 2)).off + 1, none⟩ : Addr) = ad.add (k * 2 + 1) := add_add ad (k * 2) 1
  exact ⟨ad, rfl, hb, hc.trans g0, by rw [e1]; exact hc2.trans g1⟩

/-- can it be the ID of a chunk? -/
def okId (x : IdZ) : Bool := vldB x.1 x.2 && (decide (1 ≤ x.2) && decide (x.2 ≤ 8192))
def sumN (l : List IdZ) : Int := (l.map (·.2)).sum
theorem sumN_take (l : List IdZ) (k : Nat) (h : k < l.length) : sumN (l.take (k + 1)) = sumN (l.take k) + l[k].2 := by
  unfold sumN
  rw [List.take_succ_eq_append_getElem h, List.map_append, List.sum_append]
  simp
theorem sumN_bd (l : List IdZ) (h : l.all okId = true) : 0 ≤ sumN l ∧ sumN l ≤ 8192 * l.length := by
  induction l with
  | nil => simp [sumN]
  | cons x l ih =>
    rw [List.all_cons, Bool.and_eq_true] at h
    obtain ⟨h1, h2⟩ := ih h.2
    have hx := h.1
    unfold okId at hx
    simp only [Bool.and_eq_true, decide_eq_true_eq] at hx
    simp only [sumN, List.map_cons, List.sum_cons, List.length_cons] at h1 h2 ⊢
    omega
/-- the error of a manifest -/
def chkM (n : Int) (l : List IdZ) : Int := if 1024 < l.length then 251 else if l.all okId = true then (if n = sumN l ∧ sumN l ≤ 1048576 then 0 else 252) else 250
theorem chkM_count {n : Int} {l : List IdZ} (h : 1024 < l.length) : 251 = chkM n l := by unfold chkM; rw [if_pos h]
theorem chkM_chunk {n : Int} {l : List IdZ} (h : ¬ 1024 < l.length) {k : Nat} (hk : k < l.length) (hx : okId l[k] = false) : 250 = chkM n l := by
  unfold chkM
  rw [if_neg h, if_neg]
  intro ha
  have := List.all_eq_true.1 ha _ (List.getElem_mem hk)
  rw [hx] at this; cases this
theorem chkM_size {n : Int} {l : List IdZ} (h : ¬ 1024 < l.length) (ha : l.all okId = true) (hn : ¬ (n = sumN l ∧ sumN l ≤ 1048576)) : 252 = chkM n l := by unfold chkM; rw [if_neg h, if_pos ha, if_neg hn]
theorem chkM_ok {n : Int} {l : List IdZ} (h : ¬ 1024 < l.length) (ha : l.all okId = true) (h1 : n = sumN l) (h2 : sumN l ≤ 1048576) : 0 = chkM n l := by unfold chkM; rw [if_neg h, if_pos ha, if_pos ⟨h1, h2⟩]
theorem chkM_zero {n : Int} {l : List IdZ} (h : chkM n l = 0) : l.length ≤ 1024 ∧ l.all okId = true ∧ n = sumN l ∧ sumN l ≤ 1048576 := by
  unfold chkM at h
  split at h
  · cases h
  · split at h
    · split at h
      · rename_i h1 h2 h3
        exact ⟨by omega, h2, h3.1, h3.2⟩
      · cases h
    · cases h
theorem all_take (l : List IdZ) (k : Nat) (h : k < l.length) (ha : (l.take k).all okId = true) (hx : okId l[k] = true) : (l.take (k + 1)).all okId = true := by
  rw [List.take_succ_eq_append_getElem h, List.all_append, ha]
  simp [hx]

/-- a manifest by value -/
def manV (n : Int) (A : Option Addr) (k cap : Nat) : Value := .agg #[.int .i64 n, .slice A k cap]

set_option maxHeartbeats 2000000 in
theorem check25_any (n : Int) (A : Option Addr) (cap B : Nat) (l : List IdZ) (w : World) (hr : Row w B A (idsC l)) (hB : B ≤ w.heap.size) (hm : l.length ≤ 9223372036854775807) :
    Calls Try.prog 69 #[.agg #[.int .i64 n, .slice A l.length cap]] w fun e w' => e = .returned (.int .i64 (chkM n l)) ∧ Below w.heap.size w w' := by
  have g0 := grew_alloc w (.cells #[.int .i64 n, .slice A l.length cap] 33)
  have hC := Blk.new w 33 #[.int .i64 n, .slice A l.length cap]
  have c0 : (w.alloc (.cells #[.int .i64 n, .slice A l.length cap] 33)).cell? ⟨w.heap.size, 0, none⟩ = some (.int .i64 n) := (hC.cell 0).trans rfl
  have c1 : (w.alloc (.cells #[.int .i64 n, .slice A l.length cap] 33)).cell? ⟨w.heap.size, 1, none⟩ = some (.slice A l.length cap) := (hC.cell 1).trans rfl
  have hr0 := hr.below g0 hB
  have hB0 := Nat.le_trans hB g0.size
  by_cases hl : 1024 < l.length
  · have hlI : (1024 : Int) < (l.length : Int) := by omega
    go_enter Try.func69, Try.ntmps69
    go_wp2_with fail
    go_ret
    exact ⟨ret_i64 (chkM_count hl), g0⟩
  · have hlI : ¬ (1024 : Int) < (l.length : Int) := by omega
    go_enter Try.func69, Try.ntmps69
    go_wp2_with fail
    clear hC
    generalize w.alloc (.cells #[.int .i64 n, .slice A l.length cap] 33) = w1 at *
    generalize hgc : w.heap.size = gc at *
    have HGc := Lib.hid hgc
    clear hgc
    go_loopw [3, 13] (fun s i wr => (∃ k : Nat, k ≤ l.length ∧ i = .int .i64 k ∧ s = .int .i64 (sumN (l.take k)) ∧ Hid ((l.take k).all okId = true)) ∧ Grew w1 wr) (fun _ i _ => l.length - (intOf i).toNat)
    case atStart => exact ⟨⟨0, Nat.zero_le _, rfl, rfl, Lib.hid rfl⟩, Grew.refl _⟩
    case round =>
      obtain ⟨⟨k, hk, rfl, rfl, HA⟩, hb⟩ := hrel
      have c0r := cell_up hb c0
      have c1r := cell_up hb c1
      have hsb := sumN_bd _ HA.out
      have hlt' : (l.take k).length ≤ k := List.length_take_le _ _
      by_cases hlt : k < l.length
      · obtain ⟨ad, rfl, hbl, d0, d1⟩ := ids_at (hr0.up hb hB0) hlt
        have hst := sumN_take l k hlt
        have hAs := all_take l k hlt HA.out
        have HBad := Lib.hid (fun h => chkM_chunk (n := n) (l := l) hl hlt h)
        clear c0
        generalize l[k] = x at *
        obtain ⟨xs, xn⟩ := x
        simp only at d0 d1 hst
        have HST := Lib.hid hst
        clear hst
        generalize sumN (l.take k) = sm at *
        have hv0 : Grew wr (wr.alloc (.cells #[.int .u64 xs, .int .i64 xn] 53)) := grew_alloc _ _
        have hX := Blk.new wr 53 #[.int .u64 xs, .int .i64 xn]
        by_cases hv : vldB xs xn = true
        · have HV := Lib.hid (fun W => valid_any xs xn W)
          rw [hv] at HV
          by_cases ha : 1 ≤ xn ∧ xn ≤ 8192
          · obtain ⟨ha, hb2⟩ := ha
            have hok : okId (xs, xn) = true := by unfold okId; simp [hv, ha, hb2]
            have HA2 := Lib.hid (hAs hok)
            clear hAs hok hv
            go_wp2_with fail
            refine (HV.out _).mono ?_
            rintro e w2 ⟨rfl, hbb⟩
            have hX2 := hX.of hbb
            have e1 : w2.cell? ⟨wr.heap.size, 1, none⟩ = some (.int .i64 xn) := (hX2.cell 1).trans rfl
            have hb3 : Grew w1 w2 := (Grew.trans hb hv0).trans hbb
            clear hX hX2 hbb HV
            go_wp2_with fail
            go_roundw
            case rel => exact ⟨⟨k + 1, by omega, by go_num, by rw [HST.out], HA2⟩, hb3⟩
            case measure => simp [intOf]; omega
          · have hok : okId (xs, xn) = false := by
              unfold okId
              rw [Bool.and_eq_false_iff]; right
              rw [Bool.and_eq_false_iff, decide_eq_false_iff_not, decide_eq_false_iff_not]
              omega
            have HBd := Lib.hid (HBad.out hok)
            clear hAs hok hv HBad
            by_cases ha1 : xn < 1
            · clear ha
              go_wp2_with fail
              refine (HV.out _).mono ?_
              rintro e w2 ⟨rfl, hbb⟩
              have hX2 := hX.of hbb
              have e1 : w2.cell? ⟨wr.heap.size, 1, none⟩ = some (.int .i64 xn) := (hX2.cell 1).trans rfl
              have hb3 : Grew w1 w2 := (Grew.trans hb hv0).trans hbb
              clear hX hX2 hbb HV
              go_wp2_with fail
              go_ret
              exact ⟨ret_i64 HBd.out, Grew.trans g0 hb3⟩
            · have ha2 : 8192 < xn := by omega
              clear ha
              go_wp2_with fail
              refine (HV.out _).mono ?_
              rintro e w2 ⟨rfl, hbb⟩
              have hX2 := hX.of hbb
              have e1 : w2.cell? ⟨wr.heap.size, 1, none⟩ = some (.int .i64 xn) := (hX2.cell 1).trans rfl
              have hb3 : Grew w1 w2 := (Grew.trans hb hv0).trans hbb
              clear hX hX2 hbb HV
              go_wp2_with fail
              go_ret
              exact ⟨ret_i64 HBd.out, Grew.trans g0 hb3⟩
        · have hv' : vldB xs xn = false := by simpa using hv
          have HV := Lib.hid (fun W => valid_any xs xn W)
          rw [hv'] at HV
          have HBd := Lib.hid (HBad.out (by unfold okId; rw [hv']; rfl))
          clear hv hv' hAs HBad
          go_wp2_with fail
          refine (HV.out _).mono ?_
          rintro e w2 ⟨rfl, hbb⟩
          have hb3 : Grew w1 w2 := (Grew.trans hb hv0).trans hbb
          clear hX hbb HV
          go_wp2_with fail
          go_ret
          exact ⟨ret_i64 HBd.out, Grew.trans g0 hb3⟩
      · obtain rfl : k = l.length := by omega
        rw [List.take_length] at HA hsb ⊢
        by_cases he : n = sumN l
        · rw [← he] at hsb ⊢
          by_cases he2 : 1048576 < n
          · have HBd := Lib.hid (chkM_size (n := n) (l := l) hl HA.out (by omega))
            clear he
            go_wp2_with fail
            go_ret
            exact ⟨ret_i64 HBd.out, Grew.trans g0 hb⟩
          · have HBd := Lib.hid (chkM_ok (n := n) (l := l) hl HA.out he (by omega))
            clear he
            go_wp2_with fail
            go_ret
            exact ⟨ret_i64 HBd.out, Grew.trans g0 hb⟩
        · have HBd := Lib.hid (chkM_size (n := n) (l := l) hl HA.out (fun h => he h.1))
          have hne : (n != sumN l) = true := by rw [bne_iff_ne]; exact he
          clear he
          generalize sumN l = sm at *
          go_wp2_with fail
          go_ret
          exact ⟨ret_i64 HBd.out, Grew.trans g0 hb⟩

set_option maxHeartbeats 2000000 in
theorem refCheck25_any (n : Int) (A : Option Addr) (cap B : Nat) (l : List IdZ) (w : World) (hr : Row w B A (idsC l)) (hB : B ≤ w.heap.size) (hm : l.length ≤ 9223372036854775807) :
    Calls Try.prog 62 #[.agg #[.int .i64 n, .slice A l.length cap]] w fun e w' => e = .returned (.int .i64 (chkM n l)) ∧ Below w.heap.size w w' := by
  have g0 := grew_alloc w (.cells #[.int .i64 n, .slice A l.length cap] 33)
  have hC := Blk.new w 33 #[.int .i64 n, .slice A l.length cap]
  have c0 : (w.alloc (.cells #[.int .i64 n, .slice A l.length cap] 33)).cell? ⟨w.heap.size, 0, none⟩ = some (.int .i64 n) := (hC.cell 0).trans rfl
  have c1 : (w.alloc (.cells #[.int .i64 n, .slice A l.length cap] 33)).cell? ⟨w.heap.size, 1, none⟩ = some (.slice A l.length cap) := (hC.cell 1).trans rfl
  have hr0 := hr.below g0 hB
  have hB0 := Nat.le_trans hB g0.size
  by_cases hl : 1024 < l.length
  · have hlI : (1024 : Int) < (l.length : Int) := by omega
    go_enter Try.func62, Try.ntmps62
    go_wp2_with fail
    go_ret
    exact ⟨ret_i64 (chkM_count hl), g0⟩
  · have hlI : ¬ (1024 : Int) < (l.length : Int) := by omega
    go_enter Try.func62, Try.ntmps62
    go_wp2_with fail
    clear hC
    generalize w.alloc (.cells #[.int .i64 n, .slice A l.length cap] 33) = w1 at *
    generalize hgc : w.heap.size = gc at *
    have HGc := Lib.hid hgc
    clear hgc
    go_loopw [3, 4] (fun s i wr => (∃ k : Nat, k ≤ l.length ∧ i = .int .i64 k ∧ s = .int .i64 (sumN (l.take k)) ∧ Hid ((l.take k).all okId = true)) ∧ Grew w1 wr) (fun _ i _ => l.length - (intOf i).toNat)
    case atStart => exact ⟨⟨0, Nat.zero_le _, rfl, rfl, Lib.hid rfl⟩, Grew.refl _⟩
    case round =>
      obtain ⟨⟨k, hk, rfl, rfl, HA⟩, hb⟩ := hrel
      have c0r := cell_up hb c0
      have c1r := cell_up hb c1
      have hsb := sumN_bd _ HA.out
      have hlt' : (l.take k).length ≤ k := List.length_take_le _ _
      by_cases hlt : k < l.length
      · obtain ⟨ad, rfl, hbl, d0, d1⟩ := ids_at (hr0.up hb hB0) hlt
        have hst := sumN_take l k hlt
        have hAs := all_take l k hlt HA.out
        have HBad := Lib.hid (fun h => chkM_chunk (n := n) (l := l) hl hlt h)
        clear c0
        generalize l[k] = x at *
        obtain ⟨xs, xn⟩ := x
        simp only at d0 d1 hst
        have HST := Lib.hid hst
        clear hst
        generalize sumN (l.take k) = sm at *
        have hv0 : Grew wr (wr.alloc (.cells #[.int .u64 xs, .int .i64 xn] 53)) := grew_alloc _ _
        have hX := Blk.new wr 53 #[.int .u64 xs, .int .i64 xn]
        by_cases hv : vldB xs xn = true
        · have HV := Lib.hid (fun W => refValid_any xs xn W)
          rw [hv] at HV
          by_cases ha : 1 ≤ xn ∧ xn ≤ 8192
          · obtain ⟨ha, hb2⟩ := ha
            have hok : okId (xs, xn) = true := by unfold okId; simp [hv, ha, hb2]
            have HA2 := Lib.hid (hAs hok)
            clear hAs hok hv
            go_wp2_with fail
            refine (HV.out _).mono ?_
            rintro e w2 ⟨rfl, hbb⟩
            have hX2 := hX.of hbb
            have e1 : w2.cell? ⟨wr.heap.size, 1, none⟩ = some (.int .i64 xn) := (hX2.cell 1).trans rfl
            have hb3 : Grew w1 w2 := (Grew.trans hb hv0).trans hbb
            clear hX hX2 hbb HV
            go_wp2_with fail
            go_roundw
            case rel => exact ⟨⟨k + 1, by omega, by go_num, by rw [HST.out], HA2⟩, hb3⟩
            case measure => simp [intOf]; omega
          · have hok : okId (xs, xn) = false := by
              unfold okId
              rw [Bool.and_eq_false_iff]; right
              rw [Bool.and_eq_false_iff, decide_eq_false_iff_not, decide_eq_false_iff_not]
              omega
            have HBd := Lib.hid (HBad.out hok)
            clear hAs hok hv HBad
            by_cases ha1 : xn < 1
            · clear ha
              go_wp2_with fail
              refine (HV.out _).mono ?_
              rintro e w2 ⟨rfl, hbb⟩
              have hX2 := hX.of hbb
              have e1 : w2.cell? ⟨wr.heap.size, 1, none⟩ = some (.int .i64 xn) := (hX2.cell 1).trans rfl
              have hb3 : Grew w1 w2 := (Grew.trans hb hv0).trans hbb
              clear hX hX2 hbb HV
              go_wp2_with fail
              go_ret
              exact ⟨ret_i64 HBd.out, Grew.trans g0 hb3⟩
            · have ha2 : 8192 < xn := by omega
              clear ha
              go_wp2_with fail
              refine (HV.out _).mono ?_
              rintro e w2 ⟨rfl, hbb⟩
              have hX2 := hX.of hbb
              have e1 : w2.cell? ⟨wr.heap.size, 1, none⟩ = some (.int .i64 xn) := (hX2.cell 1).trans rfl
              have hb3 : Grew w1 w2 := (Grew.trans hb hv0).trans hbb
              clear hX hX2 hbb HV
              go_wp2_with fail
              go_ret
              exact ⟨ret_i64 HBd.out, Grew.trans g0 hb3⟩
        · have hv' : vldB xs xn = false := by simpa using hv
          have HV := Lib.hid (fun W => refValid_any xs xn W)
          rw [hv'] at HV
          have HBd := Lib.hid (HBad.out (by unfold okId; rw [hv']; rfl))
          clear hv hv' hAs HBad
          go_wp2_with fail
          refine (HV.out _).mono ?_
          rintro e w2 ⟨rfl, hbb⟩
          have hb3 : Grew w1 w2 := (Grew.trans hb hv0).trans hbb
          clear hX hbb HV
          go_wp2_with fail
          go_ret
          exact ⟨ret_i64 HBd.out, Grew.trans g0 hb3⟩
      · obtain rfl : k = l.length := by omega
        rw [List.take_length] at HA hsb ⊢
        by_cases he : n = sumN l
        · rw [← he] at hsb ⊢
          by_cases he2 : 1048576 < n
          · have HBd := Lib.hid (chkM_size (n := n) (l := l) hl HA.out (by omega))
            clear he
            go_wp2_with fail
            go_ret
            exact ⟨ret_i64 HBd.out, Grew.trans g0 hb⟩
          · have HBd := Lib.hid (chkM_ok (n := n) (l := l) hl HA.out he (by omega))
            clear he
            go_wp2_with fail
            go_ret
            exact ⟨ret_i64 HBd.out, Grew.trans g0 hb⟩
        · have HBd := Lib.hid (chkM_size (n := n) (l := l) hl HA.out (fun h => he h.1))
          have hne : (n != sumN l) = true := by rw [bne_iff_ne]; exact he
          clear he
          generalize sumN l = sm at *
          go_wp2_with fail
          go_ret
          exact ⟨ret_i64 HBd.out, Grew.trans g0 hb⟩
end

/- Map:
  Maps keyed by IDs: block b is a map that holds f, a partial function from IDs to values.
-/
section
set_option linter.unusedVariables false
set_option linter.unusedSimpArgs false
set_option linter.unnecessarySimpa false
open Go.RowKit

/-- numbers that fit their kinds -/
def WfI (x : IdZ) : Prop := (0 ≤ x.1 ∧ x.1 < 18446744073709551616) ∧ (-9223372036854775808 ≤ x.2 ∧ x.2 ≤ 9223372036854775807)
theorem idKeyed : Go.Maps.Keyed Try.prog 53 := Go.Maps.Keyed.of_law (deep_law_laid (m := 3) (by kernel_rfl) (by decide) (of_decide_eq_true (by kernel_rfl)) (by kernel_rfl) (by kernel_rfl))
theorem id_key (x : IdZ) (h : WfI x) : ∃ l, keyOf Try.prog 53 (idV x) = some l := by
  obtain ⟨⟨a0, a1⟩, b0, b1⟩ := h
  obtain ⟨s, n⟩ := x
  have wa : (Lit.int .u64 s).wf = true := by simp [Lit.wf, IntKind.min, IntKind.max, IntKind.signed, IntKind.bits]; simp at a0 a1; omega
  have wb : (Lit.int .i64 n).wf = true := by simp [Lit.wf, IntKind.min, IntKind.max, IntKind.signed, IntKind.bits]; simp at b0 b1; omega
  refine ⟨.string (keyBytes [.int .u64 s, .int .i64 n]), ?_⟩
  have hkt : Program.keyType Try.prog 53 = true := by kernel_rfl
  have hsz : Try.prog.cellsOf 53 = 2 := by kernel_rfl
  have hts : ∃ m, Try.prog.types.size = m + 1 := ⟨Try.prog.types.size - 1, by kernel_rfl⟩
  obtain ⟨m, hm⟩ := hts
  unfold keyOf idV
  simp only [Try.underlying53]
  rw [if_pos (by simp [hkt, Value.formed, Try.underlying53, hsz]), hm]
  unfold Program.keyLits
  simp only [Try.underlying53, Value.cells]
  rw [if_pos ⟨by rw [hsz]; rfl, by decide +kernel⟩]
  have c0 : Try.prog.cellsOf 51 = 1 := by kernel_rfl
  have c1 : Try.prog.cellsOf 3 = 1 := by kernel_rfl
  simp [Program.keyLits, Try.underlying51, Try.underlying3, wa, wb, c0, c1]

theorem run_makeMap_n {t k e : TypeId} (ht : Try.prog.underlying t = some (.map k e)) (n : Int) (w : World) : (Instr.makeMap t (some (.int .i64 n))).run Try.prog w = .ok (.map (some w.heap.size)) (w.alloc (.map #[] 0)) := by
  simp [Instr.makeMap, run_underlying ht, asInt, asIntOf, Result.andThen]
/-- any value reads as itself -/
def mR (v : Value) : Option (DataW Value × List MemPlace) := some (.held v, [])
/-- block b is a map of at most n entries that holds f -/
def MapIs (w : World) (b n : Nat) (f : IdZ → Option Value) : Prop := ∃ D, w.ownsMap Try.prog 53 mR b n D ∧ Go.Maps.IsMap D ∧
  ∀ x l, keyOf Try.prog 53 (idV x) = some l → Go.Maps.has D l = (f x).isSome ∧ ∀ v, f x = some v → ∀ z, D.atKey l z = .held v
/-- f with v at x -/
def updM (f : IdZ → Option Value) (x : IdZ) (v : Value) : IdZ → Option Value := fun y => if y = x then some v else f y
def delM (f : IdZ → Option Value) (x : IdZ) : IdZ → Option Value := fun y => if y = x then none else f y
theorem idV_inj {x y : IdZ} (h : idV x = idV y) : x = y := by
  obtain ⟨a, b⟩ := x
  obtain ⟨c, d⟩ := y
  simp only [idV, Value.agg.injEq] at h
  have h0 := congrArg (fun l : Array Value => l[0]?) h
  have h1 := congrArg (fun l : Array Value => l[1]?) h
  simp at h0 h1
  rw [h0, h1]
section
variable {w w' : World} {b n : Nat} {f : IdZ → Option Value} {S : Nat → Prop}
theorem MapIs.lt (h : MapIs w b n f) : b < w.heap.size := by obtain ⟨D, hD, _⟩ := h; exact hD.lt
theorem MapIs.made (w : World) : MapIs (w.alloc (.map #[] 0)) w.heap.size 0 (fun _ => none) :=
  ⟨_, World.ownsMap_made w _ _ _, ⟨_, rfl⟩, fun x l _ => ⟨rfl, fun v h => by cases h⟩⟩
theorem MapIs.made' {w : World} {b : Nat} (h : b = w.heap.size) : MapIs (w.alloc (.map #[] 0)) b 0 (fun _ => none) := by subst h; exact MapIs.made w
theorem MapIs.ch (h : MapIs w b n f) (k : Ch S w w') (hb : ¬ S b) : MapIs w' b n f := by
  obtain ⟨D, hD, r⟩ := h
  have hl := hD.lt
  obtain ⟨es, clock, hh, r2⟩ := hD
  exact ⟨D, ⟨es, clock, (k.block b hl hb).trans hh, r2⟩, r⟩
theorem MapIs.of (h : MapIs w b n f) (k : Below w.heap.size w w') : MapIs w' b n f := h.ch (S := NoB) (Ch.of_below k) (fun h => h)
theorem MapIs.mono {n' : Nat} (h : MapIs w b n f) (hn : n ≤ n') : MapIs w b n' f := by obtain ⟨D, hD, r⟩ := h; exact ⟨D, hD.mono hn, r⟩
theorem MapIs.congr {g : IdZ → Option Value} (h : MapIs w b n f) (hg : ∀ x, f x = g x) : MapIs w b n g := by
  have : f = g := funext hg
  rwa [← this]
theorem MapIs.ne_blk {g : Nat} {t : TypeId} {cs : Array Value} (h : MapIs w b n f) (hB : Blk w g t cs) : b ≠ g := by
  rintro rfl
  obtain ⟨D, ⟨es, clock, hh, _⟩, _⟩ := h
  unfold Blk at hB
  rw [hh] at hB
  cases hB
theorem MapIs.ne_own {base : Nat} {e : TypeId} {size m : Nat} {v : Value} {xs : List Value} (h : MapIs w b n f) (ho : w.ownsRow base e size v m xs) : v.ownBlock ≠ some b := by
  rcases ho.2 with ⟨rfl, _⟩ | ⟨g, cap, cur, rfl, _, hh, _⟩
  · intro h; cases h
  · intro he
    have hg : g = b := by simpa [Value.ownBlock] using he
    subst hg
    obtain ⟨D, ⟨es, clock, hh2, _⟩, _⟩ := h
    rw [hh] at hh2
    cases hh2
theorem MapIs.ne_map {b' n' : Nat} {f' : IdZ → Option Value} (h : MapIs w b n f) (h' : MapIs w b' n' f') {x : IdZ} (wx : WfI x) (hne : (f x).isSome ≠ (f' x).isSome) : b ≠ b' := by
  rintro rfl
  obtain ⟨D, ⟨es, clock, hh, F, _, hD⟩, _, h1⟩ := h
  obtain ⟨D', ⟨es', clock', hh', F', _, hD'⟩, _, h1'⟩ := h'
  rw [hh] at hh'
  cases hh'
  rw [← hD'] at hD
  subst hD
  obtain ⟨l, hl⟩ := id_key x wx
  exact hne ((h1 x l hl).1.symm.trans (h1' x l hl).1)
/-- no block of bytes, nor any of cells -/
theorem MapIs.noBytes (h : MapIs w b n f) : ∀ cs fr (t : TypeId), w.heap[b]? ≠ some (.cells cs t fr) := by
  intro cs fr t hh
  obtain ⟨D, ⟨es, clock, hh2, _⟩, _⟩ := h
  rw [hh] at hh2
  cases hh2
variable {x : IdZ} {t e : TypeId} {z : Value}
theorem MapIs.look (h : MapIs w b n f) (wx : WfI x) (ht : Try.prog.underlying t = some (.map 53 e)) (hz : (zeroValue e).run Try.prog w = .ok z w) :
    (Instr.lookup t (.map (some b)) (.agg #[.int .u64 x.1, .int .i64 x.2]) true).run Try.prog w = .ok (.tuple #[(f x).getD z, .bool (f x).isSome]) w := by
  obtain ⟨D, hD, _, hf⟩ := h
  obtain ⟨l, hl⟩ := id_key x wx
  obtain ⟨v, ps, hrun, hv⟩ := hD.look_ok idKeyed ht hz (zd := .held z) (zp := []) rfl hl
  obtain ⟨h1, h2⟩ := hf x l hl
  have e1 : DataW.held v = D.atKey l (.held z) := by
    unfold mR at hv
    exact congrArg Prod.fst (Option.some.inj hv)
  have e2 : v = (f x).getD z := by
    cases hx : f x with
    | some u => rw [h2 u hx] at e1; exact DataW.held.inj e1
    | none =>
      rw [hx] at h1
      rw [Go.Maps.atKey_of_not_has h1] at e1
      exact DataW.held.inj e1
  rw [← e2, ← h1]
  exact hrun
theorem MapIs.get (h : MapIs w b n f) (wx : WfI x) (ht : Try.prog.underlying t = some (.map 53 e)) (hz : (zeroValue e).run Try.prog w = .ok z w) :
    (Instr.lookup t (.map (some b)) (.agg #[.int .u64 x.1, .int .i64 x.2]) false).run Try.prog w = .ok ((f x).getD z) w := by
  obtain ⟨D, hD, _, hf⟩ := h
  obtain ⟨l, hl⟩ := id_key x wx
  obtain ⟨v, ps, hrun, hv⟩ := hD.lookup idKeyed ht hz (zd := .held z) (zp := []) rfl hl
  obtain ⟨h1, h2⟩ := hf x l hl
  have e1 : DataW.held v = D.atKey l (.held z) := by
    unfold mR at hv
    exact congrArg Prod.fst (Option.some.inj hv)
  have e2 : v = (f x).getD z := by
    cases hx : f x with
    | some u => rw [h2 u hx] at e1; exact DataW.held.inj e1
    | none =>
      rw [hx] at h1
      rw [Go.Maps.atKey_of_not_has h1] at e1
      exact DataW.held.inj e1
  rw [← e2]
  exact hrun
theorem key_ne {x y : IdZ} {l l' : Lit} (h : keyOf Try.prog 53 (idV x) = some l) (h' : keyOf Try.prog 53 (idV y) = some l') (hne : y ≠ x) : l' ≠ l := by
  rintro rfl
  exact hne (idV_inj (idKeyed.inj h' h))
theorem MapIs.store (h : MapIs w b n f) (wx : WfI x) (ht : Try.prog.underlying t = some (.map 53 e)) (hn : n < maxLen) (u : Value) :
    ∃ w', (Instr.mapUpdate t (.map (some b)) (.agg #[.int .u64 x.1, .int .i64 x.2]) u).run Try.prog w = .ok () w' ∧ MapIs w' b (n + 1) (updM f x u) ∧ Ch (At b) w w' := by
  obtain ⟨D, hD, hM, hf⟩ := h
  obtain ⟨l, hl⟩ := id_key x wx
  obtain ⟨w', hrun, hD', hg⟩ := hD.update idKeyed ht hn (val := u) (d := .held u) (ps := []) hl rfl
  refine ⟨w', hrun, ⟨_, hD', hM.put _ _, fun y l' hl' => ?_⟩, Ch.of_grown hg⟩
  unfold updM
  by_cases hy : y = x
  · subst hy
    rw [hl] at hl'
    cases hl'
    rw [if_pos rfl]
    exact ⟨Go.Maps.has_put_same hM (idKeyed.key hl) _, fun v hv z => by rw [← Option.some.inj hv]; exact Go.Maps.atKey_put_same hM (idKeyed.key hl) _ _⟩
  · have hne := key_ne hl hl' hy
    rw [if_neg hy, Go.Maps.has_put_other hne]
    obtain ⟨h1, h2⟩ := hf y l' hl'
    exact ⟨h1, fun v hv z => by rw [Go.Maps.atKey_put_other hne]; exact h2 v hv z⟩
theorem MapIs.drop (h : MapIs w b n f) (wx : WfI x) (ht : Try.prog.underlying t = some (.map 53 e)) (ty : TypeId) :
    ∃ w', (Builtin.delete_ #[t, 53] ty #[.map (some b), .agg #[.int .u64 x.1, .int .i64 x.2]]).run Try.prog w = .ok (.tuple #[]) w' ∧ MapIs w' b n (delM f x) ∧ Ch (At b) w w' := by
  obtain ⟨D, hD, hM, hf⟩ := h
  obtain ⟨l, hl⟩ := id_key x wx
  obtain ⟨w', hrun, hD', hg⟩ := hD.drop idKeyed ht hl ty
  refine ⟨w', hrun, ⟨_, hD', hM.del _, fun y l' hl' => ?_⟩, Ch.of_grown hg.grown⟩
  unfold delM
  by_cases hy : y = x
  · subst hy
    rw [hl] at hl'
    cases hl'
    rw [if_pos rfl]
    exact ⟨Go.Maps.has_del_same, fun v hv => by cases hv⟩
  · have hne := key_ne hl hl' hy
    rw [if_neg hy, Go.Maps.has_del_other hne]
    obtain ⟨h1, h2⟩ := hf y l' hl'
    exact ⟨h1, fun v hv z => by rw [Go.Maps.atKey_del_other hne]; exact h2 v hv z⟩
/-- 'm[k] = v', for the walk -/
theorem wpList_store_id {ops : Array Oper} {rest : List Oper} {o : Oper} {a : Act} {Q : Exit → Act → World → Prop} (hg : o.guard = none) (m k v : Operand) (hop : o.op = Op.mapUpdate t m k v)
    (ht : Try.prog.underlying t = some (.map 53 e)) (hm : a.eval m = .map (some b)) (h : MapIs w b n f) (hn : n < maxLen) (x : IdZ) (hk : a.eval k = .agg #[.int .u64 x.1, .int .i64 x.2]) (wx : WfI x) {u : Value} (hv : a.eval v = u)
    (hK : ∀ w', MapIs w' b (n + 1) (updM f x u) → Ch (At b) w w' → wpList Try.prog ops Q rest (a.put o.dst undef) w') : wpList Try.prog ops Q (o :: rest) a w := by
  refine wpList_plain hg fun K' hK' => ?_
  obtain ⟨w', hrun, r1, r2⟩ := h.store wx ht hn u
  unfold Oper.wp
  simp [execOp, hop, hm, hk, hv, hrun, Result.andThen]
  exact hK' _ _ (hK w' r1 r2)
/-- 'delete(m, k)', for the walk -/
theorem wpList_drop_id {ops : Array Oper} {rest : List Oper} {o : Oper} {a : Act} {Q : Exit → Act → World → Prop} (hg : o.guard = none) (m k : Operand) (hop : o.op = Op.call { callee := Callee.builtin Builtin.delete, args := #[m, k], argTypes := #[t, 53] })
    (ht : Try.prog.underlying t = some (.map 53 e)) (hm : a.eval m = .map (some b)) (h : MapIs w b n f) (x : IdZ) (hk : a.eval k = .agg #[.int .u64 x.1, .int .i64 x.2]) (wx : WfI x)
    (hK : ∀ w', MapIs w' b n (delM f x) → Ch (At b) w w' → wpList Try.prog ops Q rest (a.put o.dst (.tuple #[])) w') : wpList Try.prog ops Q (o :: rest) a w := by
  refine wpList_plain hg fun K' hK' => ?_
  obtain ⟨w', hrun, r1, r2⟩ := h.drop wx ht o.type
  unfold Oper.wp
  simp [execOp, hop, resolve, invoke, builtin, hm, hk, hrun, Result.andThen]
  exact hK' _ _ (hK w' r1 r2)
end
end

end Go.Proofs.Ytpoiejgoongllaa
