/-
  Sl25, Loc25.
-/
import Derived.Test.YtpoiejgoongllaaIdz
import Derived.Deep.CutBlock
namespace Go.Proofs.Ytpoiejgoongllaa
/- Sl25:
  manifest.Slice and the reference's Slice: the pieces of chunks between two offsets.
-/
section
set_option linter.unusedVariables false
set_option linter.unusedSimpArgs false
set_option linter.unnecessarySimpa false
open Go.RowKit
attribute [local go_sem ↓] Go.wp_at_zero Go.wp_at_succ

/-- a piece: the chunk's number, from, to -/
abbrev PcZ := Nat × Int × Int
def pcC (p : PcZ) : List Value := [.int .i64 p.1, .int .i64 p.2.1, .int .i64 p.2.2]
def pcsC (l : List PcZ) : List Value := l.flatMap pcC
theorem pcsC_len (l : List PcZ) : (pcsC l).length = l.length * 3 := by
  induction l with
  | nil => rfl
  | cons x l ih => simp only [pcsC, List.flatMap_cons, List.length_append, List.length_cons] at ih ⊢; rw [ih]; simp [pcC]; omega
theorem pcsC_append (l m : List PcZ) : pcsC (l ++ m) = pcsC l ++ pcsC m := by simp [pcsC]
theorem elem_piece : Elem Try.prog 131 136 3 24 := elem_mk (z := .agg #[.int .i64 0, .int .i64 0, .int .i64 0]) Try.underlying131 (by kernel_rfl) rfl (by omega)

/-- the piece of a chunk of n bytes that begins at b -/
def pcAt (f t b : Int) (i : Nat) (n : Int) : List PcZ := if max (f - b) 0 < min (t - b) n then [(i, max (f - b) 0, min (t - b) n)] else []
/-- the pieces of the first k chunks -/
def slK (f t : Int) (l : List IdZ) (k : Nat) : List PcZ := (List.range k).flatMap fun i => pcAt f t (sumN (l.take i)) i ((l.getD i (0, 0)).2)
theorem slK_succ {f t : Int} {l : List IdZ} {k : Nat} (h : k < l.length) : slK f t l (k + 1) = slK f t l k ++ pcAt f t (sumN (l.take k)) k l[k].2 := by
  unfold slK
  rw [List.range_succ, List.flatMap_append]
  simp [List.getD_eq_getElem?_getD, h]
theorem pcAt_yes {f t b : Int} {i : Nat} {n a c : Int} (ha : a = max (f - b) 0) (hc : c = min (t - b) n) (h : a < c) : pcAt f t b i n = [(i, a, c)] := by unfold pcAt; rw [← ha, ← hc, if_pos h]
theorem pcAt_no {f t b : Int} {i : Nat} {n a c : Int} (ha : a = max (f - b) 0) (hc : c = min (t - b) n) (h : ¬ a < c) : pcAt f t b i n = [] := by unfold pcAt; rw [← ha, ← hc, if_neg h]
theorem slK_len (f t : Int) (l : List IdZ) : ∀ k, (slK f t l k).length ≤ k := by
  intro k
  induction k with
  | zero => simp [slK]
  | succ k ih =>
    unfold slK at ih ⊢
    rw [List.range_succ, List.flatMap_append, List.length_append]
    have : (([k] : List Nat).flatMap fun i => pcAt f t (sumN (l.take i)) i ((l.getD i (0, 0)).2)).length ≤ 1 := by
      simp only [List.flatMap_cons, List.flatMap_nil, List.append_nil]
      unfold pcAt; split <;> simp
    omega
theorem all_prefix (l : List IdZ) (k : Nat) (h : l.all okId = true) : (l.take k).all okId = true := by
  rw [List.all_eq_true] at h ⊢
  exact fun x hx => h x (List.mem_of_mem_take hx)
/-- the error of Slice -/
def slE (n : Int) (l : List IdZ) (f t : Int) : Int := if chkM n l = 0 then (if f < 0 ∨ t < f ∨ n < t then 253 else 0) else chkM n l
def slL (n : Int) (l : List IdZ) (f t : Int) : List PcZ := if slE n l f t = 0 then slK f t l l.length else []

set_option maxHeartbeats 2000000 in
theorem refSlice25_any (n : Int) (A : Option Addr) (cap B : Nat) (l : List IdZ) (f t : Int) (w : World) (hr : Row w B A (idsC l)) (hB : B ≤ w.heap.size) (hm : l.length ≤ 9223372036854775807) :
    Calls Try.prog 90 #[.agg #[.int .i64 n, .slice A l.length cap], .int .i64 f, .int .i64 t] w fun e w' => ∃ A' c', e = .returned (.tuple #[.slice A' (slL n l f t).length c', .int .i64 (slE n l f t)]) ∧
      w'.ownsRow w.heap.size 136 3 (.slice A' (slL n l f t).length c') (slL n l f t).length (pcsC (slL n l f t)) ∧ Below w.heap.size w w' := by
  have g0 := grew_alloc w (.cells #[.int .i64 n, .slice A l.length cap] 33)
  have hC := Blk.new w 33 #[.int .i64 n, .slice A l.length cap]
  have c0 : (w.alloc (.cells #[.int .i64 n, .slice A l.length cap] 33)).cell? ⟨w.heap.size, 0, none⟩ = some (.int .i64 n) := (hC.cell 0).trans rfl
  have c1 : (w.alloc (.cells #[.int .i64 n, .slice A l.length cap] 33)).cell? ⟨w.heap.size, 1, none⟩ = some (.slice A l.length cap) := (hC.cell 1).trans rfl
  have hr0 := hr.below g0 hB
  have hB0 := Nat.le_trans hB g0.size
  have HC := Lib.hid (refCheck25_any n A cap B l _ hr0 hB0 hm)
  have gs : w.heap.size + 1 ≤ (w.alloc (.cells #[.int .i64 n, .slice A l.length cap] 33)).heap.size := by simp
  go_enter Try.func90, Try.ntmps90
  go_wp2_with fail
  clear hC
  generalize w.alloc (.cells #[.int .i64 n, .slice A l.length cap] 33) = w1 at *
  generalize hgc : w.heap.size = gc at *
  have HGc := Lib.hid hgc
  clear hgc
  refine HC.out.mono ?_
  rintro e w2 ⟨rfl, hb⟩
  replace c0 := cell_up hb c0
  replace c1 := cell_up hb c1
  replace hr0 := hr0.below hb hB0
  replace gs := Nat.le_trans gs hb.size
  replace g0 := Grew.trans g0 hb
  clear hb HC
  by_cases he : chkM n l = 0
  · obtain ⟨q1, q2, q3, q4⟩ := chkM_zero he
    have HZ := Lib.hid he
    by_cases hrg : f < 0 ∨ t < f ∨ n < t
    · have hE : slE n l f t = 253 := by unfold slE; rw [if_pos he, if_pos hrg]
      have hL : slL n l f t = [] := by unfold slL; rw [hE]; rfl
      have HE := Lib.hid hE
      have HL := Lib.hid hL
      rw [he]
      clear he hE hL
      rcases (by omega : f < 0 ∨ (0 ≤ f ∧ t < f) ∨ (0 ≤ f ∧ f ≤ t ∧ n < t)) with h | ⟨h, h'⟩ | ⟨h, h', h''⟩
      all_goals
        clear hrg
        go_wp2_with fail
        go_ret2
        rw [HE.out, HL.out]
        exact ⟨none, 0, rfl, World.ownsRow_nil _ _ _ _, g0⟩
    · have hE : slE n l f t = 0 := by unfold slE; rw [if_pos he, if_neg hrg]
      have hL : slL n l f t = slK f t l l.length := by unfold slL; rw [hE]; rfl
      have HE := Lib.hid hE
      have HL := Lib.hid hL
      rw [he]
      have r1 : 0 ≤ f := by omega
      have r2 : f ≤ t := by omega
      have r3 : t ≤ n := by omega
      have HA := Lib.hid q2
      rw [q3] at r3
      have HN := Lib.hid q3
      clear he hE hL hrg q2 q3
      have r4 : ¬ (n < t) := by rw [HN.out]; omega
      go_wp2_with fail
      go_loopw [9, 10, 11] (fun v b i wr => (∃ (k : Nat) (A1 : Option Addr) (cp : Nat), k ≤ l.length ∧ i = .int .i64 k ∧ b = .int .i64 (sumN (l.take k)) ∧ v = .slice A1 (slK f t l k).length cp ∧ wr.ownsRow (gc + 1) 136 3 (.slice A1 (slK f t l k).length cp) (slK f t l k).length (pcsC (slK f t l k))) ∧ Below (gc + 1) w2 wr) (fun _ _ i _ => l.length - (intOf i).toNat)
      case atStart => exact ⟨⟨0, none, 0, Nat.zero_le _, rfl, rfl, rfl, World.ownsRow_nil _ _ _ _⟩, Below.refl _ _⟩
      case round =>
        obtain ⟨⟨k, A1, cp, hk, rfl, rfl, rfl, hown⟩, hb⟩ := hrel
        have hbs : gc + 1 ≤ wr.heap.size := Nat.le_trans gs hb.size
        have c0r : wr.cell? ⟨gc, 0, none⟩ = some (.int .i64 n) := (hb.cell (p := ⟨gc, 0, none⟩) (Nat.lt_succ_self _)).trans c0
        have c1r : wr.cell? ⟨gc, 1, none⟩ = some (.slice A l.length cap) := (hb.cell (p := ⟨gc, 1, none⟩) (Nat.lt_succ_self _)).trans c1
        by_cases hlt : k < l.length
        · obtain ⟨ad, rfl, hbl, d0, d1⟩ := ids_at (hr0.below hb (Nat.le_succ_of_le hB)) hlt
          have hst := sumN_take l k hlt
          have HS := Lib.hid (slK_succ (f := f) (t := t) hlt)
          have hsl := slK_len f t l k
          have hsb := sumN_bd (l.take k) (all_prefix l k HA.out)
          have hsb2 := sumN_bd (l.take (k + 1)) (all_prefix l (k + 1) HA.out)
          have hl1 : (l.take k).length ≤ k := List.length_take_le _ _
          have hl2 : (l.take (k + 1)).length ≤ k + 1 := List.length_take_le _ _
          have hok := List.all_eq_true.1 HA.out _ (List.getElem_mem hlt)
          unfold okId at hok
          simp only [Bool.and_eq_true, decide_eq_true_eq] at hok
          obtain ⟨_, hn1, hn2⟩ := hok
          generalize l[k] = x at *
          obtain ⟨xs, xn⟩ := x
          simp only at d0 d1 hst hn1 hn2
          have HST := Lib.hid hst
          rw [hst] at hsb2
          clear hst
          generalize sumN (l.take k) = sm at *
          have hown2 := hown
          have hbs2 := hbs
          have hb2 := hb
          go_upto_region 13 with (fail)
          generalize hfi : (if f - sm < 0 then 0 else f - sm) = fi
          generalize hla : (if xn < t - sm then xn else t - sm) = la
          have hf1 : fi = max (f - sm) 0 := by rw [← hfi]; split <;> omega
          have hl3 : la = min (t - sm) xn := by rw [← hla]; split <;> omega
          have hf2 : 0 ≤ fi ∧ fi ≤ 8388608 := by rw [← hfi]; split <;> omega
          have hl4 : -8388608 ≤ la ∧ la ≤ 8388608 := by rw [← hla]; split <;> omega
          clear hown hb hbs hfi hla
          by_cases hfl : fi < la
          · have HP := Lib.hid (pcAt_yes (i := k) hf1 hl3 (by omega))
            rw [HP.out] at HS
            clear hf1 hl3 HP
            go_wp2_with (at_builtin; refine wpList_append_row rfl (.tmp 58) (.tmp 63) rfl (gc + 1) elem_piece (by rfl) (hown2.alloc _) _ (by rfl) (by rfl) (Blk.row (Blk.new wr 136 #[.int .i64 k, .int .i64 fi, .int .i64 la])) (by simp [Value.oneCell']) (by unfold maxLen; omega) (by omega) (by simp; omega) ?_; intro A3 c3 w3 hown3 hg3 _; have hb3 : Below (gc + 1) w2 w3 := Below.trans (B := gc + 1) (Below.trans (B := gc + 1) hb2 ((grew_alloc wr _).mono hbs2)) (below_grown hg3 (by simp; omega) (own_lt hown2)))
            go_roundw
            case rel =>
              refine ⟨⟨k + 1, A3, c3, by omega, by go_num, by rw [HST.out], by rw [HS.out, List.length_append]; rfl, ?_⟩, hb3⟩
              rw [HS.out, List.length_append, pcsC_append]
              exact hown3
            case measure => simp [intOf]; omega
          · have HP := Lib.hid (pcAt_no (i := k) hf1 hl3 (by omega))
            rw [HP.out, List.append_nil] at HS
            clear hf1 hl3 HP
            go_wp2_with fail
            go_roundw
            case rel => exact ⟨⟨k + 1, A1, cp, by omega, by go_num, by rw [HST.out], by rw [HS.out], by rw [HS.out]; exact hown2⟩, hb2⟩
            case measure => simp [intOf]; omega
        · obtain rfl : k = l.length := by omega
          go_wp2_with fail
          go_ret2
          rw [HE.out, HL.out]
          exact ⟨A1, cp, rfl, own_mono hown (by rw [HGc.out]; exact Nat.le_succ _), Below.trans (B := w.heap.size) g0 (hb.mono (by rw [HGc.out]; exact Nat.le_succ _))⟩
  · have hE : slE n l f t = chkM n l := by unfold slE; rw [if_neg he]
    have hL : slL n l f t = [] := by unfold slL; rw [hE, if_neg he]
    have HE := Lib.hid hE
    have HL := Lib.hid hL
    have hne : (chkM n l != 0) = true := by rw [bne_iff_ne]; exact he
    clear hE hL he
    generalize chkM n l = er at *
    go_wp2_with fail
    go_ret2
    rw [HE.out, HL.out]
    exact ⟨none, 0, rfl, World.ownsRow_nil _ _ _ _, g0⟩
end

/- Loc25:
  manifest.Locate and the reference's Locate: the chunk of a byte, and the byte's offset in it.
-/
section
set_option linter.unusedVariables false
set_option linter.unusedSimpArgs false
set_option linter.unnecessarySimpa false
open Go.RowKit
attribute [local go_sem ↓] Go.wp_at_zero Go.wp_at_succ

theorem okId_bd {x : IdZ} (h : okId x = true) : 1 ≤ x.2 ∧ x.2 ≤ 8192 := by
  unfold okId at h
  simp only [Bool.and_eq_true, decide_eq_true_eq] at h
  exact h.2
theorem ok_at {l : List IdZ} (h : l.all okId = true) {k : Nat} (hk : k < l.length) : 1 ≤ l[k].2 ∧ l[k].2 ≤ 8192 := okId_bd (List.all_eq_true.1 h _ (List.getElem_mem hk))
theorem sumN_mono {l : List IdZ} (h : l.all okId = true) : ∀ {i j : Nat}, i ≤ j → sumN (l.take i) ≤ sumN (l.take j) := by
  intro i j hij
  induction j with
  | zero => obtain rfl : i = 0 := by omega
            exact Int.le_refl _
  | succ j ih =>
    rcases Nat.lt_or_ge i (j + 1) with h' | h'
    · refine Int.le_trans (ih (by omega)) ?_
      rcases Nat.lt_or_ge j l.length with hj | hj
      · rw [sumN_take l j hj]; have := ok_at h hj; omega
      · rw [List.take_of_length_le hj, List.take_of_length_le (by omega)]; exact Int.le_refl _
    · obtain rfl : i = j + 1 := by omega
      exact Int.le_refl _
/-- chunk k holds the byte at o -/
def LocK (l : List IdZ) (o : Int) (k : Nat) : Prop := k < l.length ∧ sumN (l.take k) ≤ o ∧ o < sumN (l.take (k + 1))
theorem LocK.uniq {l : List IdZ} (h : l.all okId = true) {o : Int} {k k' : Nat} (a : LocK l o k) (b : LocK l o k') : k = k' := by
  obtain ⟨a1, a2, a3⟩ := a
  obtain ⟨b1, b2, b3⟩ := b
  rcases Nat.lt_trichotomy k k' with hlt | heq | hgt
  · have := sumN_mono h (i := k + 1) (j := k') hlt; omega
  · exact heq
  · have := sumN_mono h (i := k' + 1) (j := k) hgt; omega
/-- .. there is one -/
theorem LocK.ex (l : List IdZ) (o : Int) (h0 : 0 ≤ o) : ∀ j, j ≤ l.length → o < sumN (l.take j) → ∃ k, LocK l o k := by
  intro j
  induction j with
  | zero => intro _ h; simp [sumN] at h; omega
  | succ j ih =>
    intro hj h
    by_cases h1 : o < sumN (l.take j)
    · exact ih (by omega) h1
    · exact ⟨j, by omega, by omega, h⟩
/-- the one piece of a byte -/
theorem slK_one {l : List IdZ} (h : l.all okId = true) {o : Int} {k : Nat} (hk : LocK l o k) : slK o (o + 1) l l.length = [(k, o - sumN (l.take k), o - sumN (l.take k) + 1)] := by
  obtain ⟨k1, k2, k3⟩ := hk
  have key : ∀ j, j ≤ l.length → slK o (o + 1) l j = if k < j then [(k, o - sumN (l.take k), o - sumN (l.take k) + 1)] else [] := by
    intro j
    induction j with
    | zero => intro _; simp [slK]
    | succ j ih =>
      intro hj
      have hjl : j < l.length := by omega
      have hn := ok_at h hjl
      have hs := sumN_take l j hjl
      rw [slK_succ hjl, ih (by omega)]
      rcases Nat.lt_trichotomy j k with hlt | heq | hgt
      · rw [if_neg (by omega), if_neg (by omega), pcAt_no rfl rfl]
        · rfl
        · have := sumN_mono h (i := j + 1) (j := k) hlt; omega
      · subst heq
        rw [if_neg (by omega), if_pos (by omega), pcAt_yes (a := o - sumN (l.take j)) (c := o - sumN (l.take j) + 1) (by omega) (by omega) (by omega)]
        rfl
      · rw [if_pos (by omega), if_pos (by omega), pcAt_no rfl rfl, List.append_nil]
        have := sumN_mono h (i := k + 1) (j := j) hgt; omega
  rw [key l.length (Nat.le_refl _), if_pos k1]
/-- the error of Locate -/
def locE (n : Int) (l : List IdZ) (o : Int) : Int := if chkM n l = 0 then (if o < 0 ∨ n ≤ o then 253 else 0) else chkM n l
/-- what Locate returns -/
def LocRes (n : Int) (l : List IdZ) (o : Int) (v : Value) : Prop := if locE n l o = 0 then ∃ k, LocK l o k ∧ v = .tuple #[.int .i64 (k : Nat), .int .i64 (o - sumN (l.take k)), .int .i64 0] else v = .tuple #[.int .i64 0, .int .i64 0, .int .i64 (locE n l o)]
theorem LocRes.no {n : Int} {l : List IdZ} {o e : Int} (he : e ≠ 0) (h : locE n l o = e) : LocRes n l o (.tuple #[.int .i64 0, .int .i64 0, .int .i64 e]) := by unfold LocRes; rw [h, if_neg he]
theorem LocRes.yes {n : Int} {l : List IdZ} {o b : Int} {k : Nat} (h : locE n l o = 0) (hk : LocK l o k) (hb : b = o - sumN (l.take k)) : LocRes n l o (.tuple #[.int .i64 (k : Nat), .int .i64 b, .int .i64 0]) := by unfold LocRes; rw [if_pos h, hb]; exact ⟨k, hk, rfl⟩
theorem LocRes.det {n : Int} {l : List IdZ} {o : Int} {v v' : Value} (h : LocRes n l o v) (h' : LocRes n l o v') : v = v' := by
  unfold LocRes at h h'
  split at h
  · rename_i he
    rw [if_pos he] at h'
    obtain ⟨k, hk, rfl⟩ := h
    obtain ⟨k', hk', rfl⟩ := h'
    have hz : chkM n l = 0 := by
      by_cases hc : chkM n l = 0
      · exact hc
      · unfold locE at he; rw [if_neg hc] at he; exact absurd he hc
    rw [LocK.uniq (chkM_zero hz).2.1 hk hk']
  · rename_i he
    rw [if_neg he] at h'
    rw [h, h']

end

end Go.Proofs.Ytpoiejgoongllaa
