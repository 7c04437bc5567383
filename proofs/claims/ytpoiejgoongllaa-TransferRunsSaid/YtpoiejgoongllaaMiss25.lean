/-
  manifest.Missing, the reference's Has and Missing.
-/
import Derived.Test.YtpoiejgoongllaaKnown25
namespace Go.Proofs.Ytpoiejgoongllaa
set_option linter.unusedVariables false
set_option linter.unusedSimpArgs false
set_option linter.unnecessarySimpa false
open Go.RowKit
attribute [local go_sem ↓] Go.wp_at_zero Go.wp_at_succ

/-- the IDs that are not at hand, each once and in order -/
def missL (hv l : List IdZ) : List IdZ := l.foldl (fun out x => if x ∈ hv ∨ x ∈ out then out else out ++ [x]) []
theorem missL_take {hv l : List IdZ} {k : Nat} (h : k < l.length) : missL hv (l.take (k + 1)) = if l[k] ∈ hv ∨ l[k] ∈ missL hv (l.take k) then missL hv (l.take k) else missL hv (l.take k) ++ [l[k]] := by
  unfold missL
  rw [List.take_succ_eq_append_getElem h, List.foldl_append]
  rfl
theorem missL_len (hv l : List IdZ) : ∀ k, k ≤ l.length → (missL hv (l.take k)).length ≤ k := by
  intro k
  induction k with
  | zero => intro _; simp [missL]
  | succ k ih =>
    intro hk
    rw [missL_take (by omega)]
    have := ih (by omega)
    split
    · omega
    · rw [List.length_append, List.length_singleton]; omega
def misL (n : Int) (hv l : List IdZ) : List IdZ := if chkM n l = 0 then missL hv l else []
/-- the map of the known -/
def knM (s : List IdZ) : IdZ → Option Value := fun x => if x ∈ s then some (.bool true) else none
theorem knM_add (s : List IdZ) (x y : IdZ) : updM (knM s) x (.bool true) y = knM (s ++ [x]) y := by
  unfold updM knM
  by_cases h : y = x
  · subst h; simp
  · simp [h]
theorem knM_yes {s : List IdZ} {x : IdZ} (h : x ∈ s) : knM s x = some (.bool true) := by unfold knM; rw [if_pos h]
theorem knM_no {s : List IdZ} {x : IdZ} (h : ¬ x ∈ s) : knM s x = none := by unfold knM; rw [if_neg h]

set_option maxRecDepth 100000 in
set_option maxHeartbeats 2000000 in
theorem missing25_any (n : Int) (A : Option Addr) (cap B : Nat) (l : List IdZ) (H : Option Addr) (hc : Nat) (hv : List IdZ) (w : World) (hr : Row w B A (idsC l)) (hh : Row w B H (idsC hv)) (hw : ∀ x ∈ l, WfI x) (hwv : ∀ x ∈ hv, WfI x) (hB : B ≤ w.heap.size) (hm : l.length ≤ 9223372036854775807) (hmv : hv.length ≤ 4611686018427387904) :
    Calls Try.prog 44 #[.agg #[.int .i64 n, .slice A l.length cap], .slice H hv.length hc] w fun e w' => ∃ A' c', e = .returned (.tuple #[.slice A' (misL n hv l).length c', .int .i64 (chkM n l)]) ∧
      w'.ownsRow w.heap.size 53 2 (.slice A' (misL n hv l).length c') (misL n hv l).length (idsC (misL n hv l)) ∧ Below w.heap.size w w' := by
  have Hw := Lib.hid hw
  have Hwv := Lib.hid hwv
  have g0 := grew_alloc w (.cells #[.int .i64 n, .slice A l.length cap] 33)
  have hC := Blk.new w 33 #[.int .i64 n, .slice A l.length cap]
  have hr0 := hr.below g0 hB
  have hh0 := hh.below g0 hB
  have hB0 := Nat.le_trans hB g0.size
  have c0 := (hC.cell 0).trans (show _ = some (.int .i64 n) from rfl)
  have c1 := (hC.cell 1).trans (show _ = some (.slice A l.length cap) from rfl)
  have HC := Lib.hid (check25_any n A cap B l _ hr0 hB0 hm)
  clear hw hwv hr hh
  go_enter Try.func44, Try.ntmps44
  go_wp2_with fail
  generalize w.alloc (.cells #[.int .i64 n, .slice A l.length cap] 33) = w1 at *
  generalize hgc : w.heap.size = gc at *
  have HGc := Lib.hid hgc
  clear hgc
  refine HC.out.mono ?_
  rintro e w2 ⟨rfl, hb⟩
  replace c0 := cell_up hb c0
  replace c1 := cell_up hb c1
  replace hC := hC.of hb
  replace hr0 := hr0.below hb hB0
  replace hh0 := hh0.below hb hB0
  replace hB0 := Nat.le_trans hB0 hb.size
  replace g0 := Grew.trans g0 hb
  clear hb HC
  by_cases he : chkM n l = 0
  · have HW1 := Lib.hid (show misL n hv l = missL hv l by unfold misL; rw [if_pos he])
    have HE0 := Lib.hid he
    have hl1 := (chkM_zero he).1
    rw [he]
    clear he
    have gM := grew_alloc w2 (.map #[] 0)
    have hMp := MapIs.made w2
    have hgl := hC.lt
    replace c1 := cell_up gM c1
    replace hC := hC.of gM
    replace hr0 := hr0.below gM hB0
    replace hh0 := hh0.below gM hB0
    have hB1 := hB0
    replace hB0 := Nat.le_trans hB0 gM.size
    replace g0 := Grew.trans g0 gM
    have hmk2 := fun (n : Int) (W : World) => run_makeMap_n Try.underlying104 n W
    go_wp2_with fail
    clear hmk2 c0
    generalize w2.alloc (.map #[] 0) = w3 at *
    generalize w2.heap.size = gb at *
    clear gM w2
    have hbl : gb < w3.heap.size := hMp.lt
    go_loopw [23] (fun i wr => ∃ k : Nat, k ≤ hv.length ∧ i = .int .i64 k ∧ MapIs wr gb k (knM (hv.take k)) ∧ Ch (At gb) w3 wr) (fun i _ => hv.length - (intOf i).toNat)
    case atStart => exact ⟨0, Nat.zero_le _, rfl, hMp.congr (fun x => by unfold knM; simp), Ch.refl _ _⟩
    case round =>
      obtain ⟨k, hk, rfl, hM, hch⟩ := hrel
      have hws := hch.size
      by_cases hlt : k < hv.length
      · have hrr := hh0.ch hch (by omega) (fun i hi => by have h' : i = gb := hi; omega)
        obtain ⟨ad, rfl, hbl, d0, d1⟩ := ids_at hrr hlt
        have hwf := Hwv.out hv[k] (List.getElem_mem hlt)
        have HK := Lib.hid (fun y => (knM_add (hv.take k) hv[k] y).trans (by rw [← List.take_succ_eq_append_getElem hlt]))
        have hga := grew_alloc wr (.cells #[.int .u64 hv[k].1, .int .i64 hv[k].2] 53)
        have hX := Blk.new wr 53 #[.int .u64 hv[k].1, .int .i64 hv[k].2]
        have hMa := hM.of hga
        have hcha := hch.next hga
        clear hM hch hrr hga
        go_wp2_with (at_mapUpdate; refine wpList_store_id rfl (.tmp 27) (.tmp 28) (.const (.bool true)) rfl Try.underlying104 rfl hMa (by unfold maxLen; omega) hv[k] rfl hwf rfl ?_; intro w6 hM6 hch6)
        go_roundw
        case rel => exact ⟨k + 1, by omega, by go_num, hM6.congr HK.out, hcha.trans hch6⟩
        case measure => simp [intOf]; omega
      · obtain rfl : k = hv.length := by omega
        rw [List.take_length] at hM
        replace c1 := hch.cell c1 (show ¬ At gb gc by show ¬ gc = gb; omega)
        replace hC := hC.ch hch (show ¬ At gb gc by show ¬ gc = gb; omega)
        replace hr0 := hr0.ch hch (by omega) (fun i hi => by have h' : i = gb := hi; omega)
        replace hB0 := Nat.le_trans hB0 hws
        have hgw : Below gc w wr := Below.trans (B := gc) (by unfold Grew at g0; rwa [HGc.out] at g0) (hch.below (by omega) (fun i hi => by have h' : i = gb := hi; omega))
        have hbl2 : gb < wr.heap.size := by omega
        clear hMp hh0 hch g0 hws hbl
        go_wp2_with fail
        obtain ⟨w4, hw4⟩ : ∃ w4, w4 = wr := ⟨_, rfl⟩
        subst hw4
        go_loopw [10, 33] (fun s i wx => ∃ (k : Nat) (A5 : Option Addr) (c5 : Nat), k ≤ l.length ∧ i = .int .i64 k ∧ s = .slice A5 (missL hv (l.take k)).length c5 ∧
          wx.ownsRow w4.heap.size 53 2 (.slice A5 (missL hv (l.take k)).length c5) (missL hv (l.take k)).length (idsC (missL hv (l.take k))) ∧ MapIs wx gb (hv.length + k) (knM (hv ++ missL hv (l.take k))) ∧ Ch (At gb) w4 wx) (fun _ i _ => l.length - (intOf i).toNat)
        case atStart => exact ⟨0, none, 0, Nat.zero_le _, rfl, rfl, World.ownsRow_nil _ _ _ _, hM.congr (fun x => by simp [missL]), Ch.refl _ _⟩
        case round =>
          clear hM
          obtain ⟨k, A5, c5, hk, rfl, rfl, hown, hM, hch⟩ := hrel
          have hws := hch.size
          have hcw := hch
          by_cases hlt : k < l.length
          · obtain ⟨ad, rfl, hbl, d0, d1⟩ := ids_at (hr0.ch hch hB0 (fun i hi => by have h' : i = gb := hi; omega)) hlt
            have hwf := Hw.out l[k] (List.getElem_mem hlt)
            have hMT := Lib.hid (missL_take (hv := hv) hlt)
            have hml := missL_len hv l k hk
            generalize l[k] = x at *
            obtain ⟨xs, xn⟩ := x
            simp only at d0 d1
            have hga := grew_alloc wr (.cells #[.int .u64 xs, .int .i64 xn] 53)
            have hX := Blk.new wr 53 #[.int .u64 xs, .int .i64 xn]
            have hMa := hM.of hga
            have hlk := hMa.get hwf Try.underlying104 (z := .bool false) (by kernel_rfl)
            have hown1 := own_below hown hga
            have hcha := hch.next hga
            clear hM hch hown
            by_cases hin : (xs, xn) ∈ hv ++ missL hv (l.take k)
            · rw [knM_yes hin] at hlk
              have HT := Lib.hid (hMT.out.trans (if_pos (List.mem_append.1 hin)))
              clear hMT hin hga
              go_wp2_with fail
              go_roundw
              case rel => exact ⟨k + 1, A5, c5, by omega, by go_num, by rw [HT.out], by rw [HT.out]; exact hown1, by rw [HT.out]; exact hMa.mono (by omega), hcha⟩
              case measure => simp [intOf]; omega
            · rw [knM_no hin] at hlk
              have HT := Lib.hid (hMT.out.trans (if_neg (fun h => hin (List.mem_append.2 h))))
              have HK := Lib.hid (fun y => (knM_add (hv ++ missL hv (l.take k)) (xs, xn) y).trans (by rw [List.append_assoc]))
              clear hMT hin hga
              go_upto_region 16 with (at_mapUpdate; refine wpList_store_id rfl (.tmp 41) (.tmp 42) (.const (.bool true)) rfl Try.underlying104 rfl hMa (by unfold maxLen; omega) (xs, xn) rfl hwf rfl ?_; intro w6 hM6 hch6)
              have hown6 := own_ch hown1 hch6 (fun g hg hs => hMa.ne_own hown1 (by rw [hg]; exact congrArg some hs))
              have hX6 := hX.ch hch6 (fun h => hMa.ne_blk hX h.symm)
              have hc6 := hcha.trans hch6
              have x0 := (hX6.cell 0).trans (show _ = some (.int .u64 xs) from rfl)
              have x1 := (hX6.cell 1).trans (show _ = some (.int .i64 xn) from rfl)
              have hws6 := hc6.size
              generalize missL hv (l.take k) = ms at *
              clear hX hMa hlk hown1 hcha hch6 hcw
              go_wp2_with (at_builtin; refine wpList_append_row rfl (.tmp 43) (.tmp 45) rfl w4.heap.size elem_id (by rfl) (hown6.alloc _) _ (by rfl) (by rfl) (Blk.row (Blk.new w6 53 #[.int .u64 xs, .int .i64 xn])) (by simp [Value.oneCell']) (by unfold maxLen; omega) (by omega) (by simp; omega) ?_; intro A8 c8 w8 hown9 hg8 _; have hga6 := grew_alloc w6 (.cells #[.int .u64 xs, .int .i64 xn] 53); have hM9 := (hM6.of hga6).ch (Ch.of_own hg8) ((hM6.of hga6).ne_own (hown6.alloc _)); have hch9 := (hc6.next hga6).nextNew (Ch.of_own hg8) (fun i hi => .inl (own_lt hown6 i hi)))
              go_roundw
              case rel =>
                refine ⟨k + 1, A8, c8, by omega, by go_num, ?_, ?_, ?_, hch9⟩
                · rw [HT.out, List.length_append, List.length_singleton]
                · rw [HT.out, List.length_append, List.length_singleton, idsC_append]; exact hown9
                · rw [HT.out]; exact (hM9.congr HK.out).mono (by omega)
              case measure => simp [intOf]; omega
          · obtain rfl : k = l.length := by omega
            rw [List.take_length] at hown ⊢
            go_wp2_with fail
            go_ret2
            refine ⟨A5, c5, ?_, ?_, ?_⟩
            · rw [HW1.out, HE0.out]; rfl
            · rw [HW1.out]; exact own_mono hown (by rw [HGc.out]; omega)
            · rw [HGc.out]; exact Below.trans (B := gc) hgw (hch.below (by omega) (fun i hi => by have h' : i = gb := hi; omega))
  · have HW1 := Lib.hid (show misL n hv l = [] by unfold misL; rw [if_neg he])
    have hne : (chkM n l != 0) = true := by rw [bne_iff_ne]; exact he
    clear he
    generalize her : chkM n l = er at *
    have HER := Lib.hid her
    clear her
    go_wp2_with fail
    go_ret2
    refine ⟨none, 0, ?_, ?_, g0⟩
    · rw [HW1.out, HER.out]; rfl
    · rw [HW1.out]; exact World.ownsRow_nil _ _ _ _

set_option maxHeartbeats 1000000 in
theorem refHas25_any (A : Option Addr) (cap B : Nat) (l : List IdZ) (x : IdZ) (w : World) (hr : Row w B A (idsC l)) (hB : B ≤ w.heap.size) (hm : l.length ≤ 9223372036854775807) :
    Calls Try.prog 29 #[.slice A l.length cap, .agg #[.int .u64 x.1, .int .i64 x.2]] w fun e w' => e = .returned (.bool (decide (x ∈ l))) ∧ Grew w w' := by
  obtain ⟨xs, xn⟩ := x
  have g0 := grew_alloc w (.cells #[.int .u64 xs, .int .i64 xn] 53)
  have hX := Blk.new w 53 #[.int .u64 xs, .int .i64 xn]
  have hr0 := hr.below g0 hB
  have x0 := (hX.cell 0).trans (show _ = some (.int .u64 xs) from rfl)
  have x1 := (hX.cell 1).trans (show _ = some (.int .i64 xn) from rfl)
  go_enter Try.func29, Try.ntmps29
  go_wp2_with fail
  generalize w.alloc (.cells #[.int .u64 xs, .int .i64 xn] 53) = w1 at *
  generalize w.heap.size = gc at *
  go_loopw [5] (fun i wr => ∃ k : Nat, k ≤ l.length ∧ i = .int .i64 k ∧ Hid (¬ (xs, xn) ∈ l.take k) ∧ Drawn w1 wr) (fun i _ => l.length - (intOf i).toNat)
  case atStart => exact ⟨0, Nat.zero_le _, rfl, Lib.hid (by simp), Drawn.refl _⟩
  case round =>
    obtain ⟨k, hk, rfl, HN, hd⟩ := hrel
    by_cases hlt : k < l.length
    · obtain ⟨ad, rfl, _, d0, d1⟩ := ids_at (hr0.keep (w' := wr) fun p _ => hd.cell p) hlt
      have z0 := (hd.cell ⟨gc, 0, none⟩).trans x0
      have z1 := (hd.cell ⟨gc, 1, none⟩).trans x1
      have HM := Lib.hid (List.getElem_mem hlt)
      have HT := Lib.hid (List.take_succ_eq_append_getElem hlt)
      generalize l[k] = y at *
      obtain ⟨y1, y2⟩ := y
      simp only at d0 d1
      by_cases he : ((y1, y2) : IdZ) = (xs, xn)
      · have HI := Lib.hid (show (xs, xn) ∈ l by rw [← he]; exact HM.out)
        obtain ⟨rfl, rfl⟩ := Prod.mk.inj he
        clear he
        go_wp2_with fail
        go_quiet (fail)
        go_wp2
        go_ret
        exact ⟨by rw [decide_eq_true HI.out]; rfl, Grew.trans g0 ((hd.drewN _).below _)⟩
      · have HN2 := Lib.hid (show ¬ (xs, xn) ∈ l.take (k + 1) by
          rw [HT.out, List.mem_append, List.mem_singleton]
          rintro (h | h)
          · exact HN.out h
          · exact he h.symm)
        rcases id_ne he with hne | ⟨rfl, hne⟩
        · clear he
          go_wp2_with fail
          go_quiet (fail)
          go_wp2
          go_roundw
          case rel => exact ⟨k + 1, by omega, by go_num, HN2, hd.drewN _⟩
          case measure => simp [intOf]; omega
        · clear he
          go_wp2_with fail
          go_quiet (fail)
          go_wp2
          go_roundw
          case rel => exact ⟨k + 1, by omega, by go_num, HN2, hd.drewN _⟩
          case measure => simp [intOf]; omega
    · obtain rfl : k = l.length := by omega
      rw [List.take_length] at HN
      go_wp2_with fail
      go_ret
      exact ⟨by rw [decide_eq_false HN.out]; rfl, Grew.trans g0 (hd.below _)⟩


end Go.Proofs.Ytpoiejgoongllaa
