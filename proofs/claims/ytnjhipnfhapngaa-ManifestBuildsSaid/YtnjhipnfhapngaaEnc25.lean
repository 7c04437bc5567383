/-
  manifest.Encode.
-/
import Derived.Test.YtnjhipnfhapngaaLeb
import Derived.Test.YtnjhipnfhapngaaLoc25
import Derived.Test.YtnjhipnfhapngaaMap
namespace Go.Proofs.Ytnjhipnfhapngaa
set_option linter.unusedVariables false
set_option linter.unusedSimpArgs false
set_option linter.unnecessarySimpa false
open Go.RowKit
attribute [local go_sem ↓] Go.wp_at_zero Go.wp_at_succ

theorem own_lit (w : World) (base : Nat) (e : TypeId) (cs : Array Value) (hb : base ≤ w.heap.size) (hm : cs.size ≤ maxLen) : (w.alloc (.cells cs e)).ownsRow base e 1 (.slice (some ⟨w.heap.size, 0, none⟩) cs.size cs.size) cs.size cs.toList :=
  ⟨by simp, .inr ⟨w.heap.size, cs.size, cs, rfl, hb, heap_alloc_new w _, Nat.le_refl _, hm, by simp, by rw [Nat.mul_one]; exact List.take_of_length_le (by simp)⟩⟩
/-- the numbers of a manifest's encoding -/
def idN (x : IdZ) : List Nat := [x.2.toNat, x.1.toNat]
def numsN (n : Nat) (len : Nat) (ids : List IdZ) : List Nat := n :: len :: ids.flatMap idN
def natU (l : List Nat) : List Value := l.map fun n : Nat => Value.int .u64 (n : Int)
theorem natU_append (l m : List Nat) : natU (l ++ m) = natU l ++ natU m := by simp [natU]
theorem natU_length (l : List Nat) : (natU l).length = l.length := by simp [natU]
theorem ones_natU (l : List Nat) : ∀ u ∈ natU l, u.oneCell' = true := by
  intro u hu
  obtain ⟨x, _, rfl⟩ := List.mem_map.1 hu
  rfl
theorem numsN_take {n len : Nat} {ids : List IdZ} {k : Nat} (h : k < ids.length) : numsN n len (ids.take (k + 1)) = numsN n len (ids.take k) ++ idN ids[k] := by
  unfold numsN; rw [List.take_succ_eq_append_getElem h, List.flatMap_append]; simp
theorem numsN_len (n len : Nat) (ids : List IdZ) : (numsN n len ids).length = 2 + 2 * ids.length := by
  unfold numsN
  have : (ids.flatMap idN).length = 2 * ids.length := by
    induction ids with
    | nil => rfl
    | cons x l ih => simp only [List.flatMap_cons, List.length_append, List.length_cons, ih, idN, List.length_nil]; omega
  simp only [List.length_cons, this]; omega
/-- numbers as bytes -/
def lebs (l : List Nat) : List Int := l.flatMap lebN
theorem lebs_take {l : List Nat} {k : Nat} (h : k < l.length) : lebs (l.take (k + 1)) = lebs (l.take k) ++ lebN l[k] := by
  unfold lebs; rw [List.take_succ_eq_append_getElem h, List.flatMap_append]; simp
theorem lebs_len (l : List Nat) : (lebs l).length ≤ 10 * l.length := by
  induction l with
  | nil => simp [lebs]
  | cons x l ih =>
    have := leb_len 10 x
    unfold lebs at ih ⊢
    simp only [List.flatMap_cons, List.length_append, List.length_cons]
    unfold lebN at ih ⊢
    omega
/-- element k of a row of numbers -/
theorem natU_at {w : World} {B : Nat} {A : Option Addr} {l : List Nat} (hr : Row w B A (natU l)) {k : Nat} (h : k < l.length) : ∃ ad : Addr, A = some ad ∧ ad.block < B ∧ w.cell? (ad.add k) = some (.int .u64 (l[k] : Int)) := by
  obtain ⟨ad, rfl, hb, hc⟩ := hr.at_ (k := k) (by rw [natU_length]; exact h)
  have e : (natU l)[k]'(by rw [natU_length]; exact h) = .int .u64 (l[k] : Int) := by simp [natU]
  rw [e] at hc
  exact ⟨ad, rfl, hb, hc⟩
theorem wfI_nat {x : IdZ} (hw : WfI x) (ho : okId x = true) : ∃ s m : Nat, x = ((s : Int), (m : Int)) ∧ s < 18446744073709551616 ∧ m ≤ 8192 := by
  obtain ⟨a, b⟩ := x
  obtain ⟨⟨h0, h1⟩, _⟩ := hw
  have hb := okId_bd ho
  simp only at h0 h1 hb
  exact ⟨a.toNat, b.toNat, by rw [Int.toNat_of_nonneg h0, Int.toNat_of_nonneg (by omega)], by omega, by omega⟩
theorem numsN_bd {n len : Nat} {ids : List IdZ} (hn : n ≤ 1048576) (hl : len ≤ 1048576) (hw : ∀ x ∈ ids, WfI x) (ho : ids.all okId = true) : ∀ z ∈ numsN n len ids, z < 18446744073709551616 := by
  intro z hz
  unfold numsN at hz
  rcases List.mem_cons.1 hz with rfl | hz
  · omega
  · rcases List.mem_cons.1 hz with rfl | hz
    · omega
    · obtain ⟨x, hx, hz⟩ := List.mem_flatMap.1 hz
      obtain ⟨s, m, rfl, h1, h2⟩ := wfI_nat (hw x hx) (List.all_eq_true.1 ho x hx)
      simp only [idN, Int.toNat_natCast, List.mem_cons, List.not_mem_nil, or_false] at hz
      omega
def encB (n : Int) (ids : List IdZ) : List Int := if chkM n ids = 0 then lebs (numsN n.toNat ids.length ids) else []
def EncRes (n : Int) (ids : List IdZ) (w : World) (e : Ending) (w' : World) : Prop := ∃ (A : Option Addr) (cap : Nat), e = .returned (.tuple #[.slice A (encB n ids).length cap, .int .i64 (chkM n ids)]) ∧
  w'.ownsRow w.heap.size 5 1 (.slice A (encB n ids).length cap) (encB n ids).length ((encB n ids).map (.int .u8)) ∧ Below w.heap.size w w'

set_option maxRecDepth 100000 in
set_option maxHeartbeats 2000000 in
theorem encode25_any (n : Int) (A : Option Addr) (cap B : Nat) (ids : List IdZ) (w : World) (hr : Row w B A (idsC ids)) (hw : ∀ x ∈ ids, WfI x) (hB : B ≤ w.heap.size) (hm : ids.length ≤ 9223372036854775807) :
    Calls Try.prog 36 #[.agg #[.int .i64 n, .slice A ids.length cap]] w (EncRes n ids w) := by
  have g0 := grew_alloc w (.cells #[.int .i64 n, .slice A ids.length cap] 31)
  have hC := Blk.new w 31 #[.int .i64 n, .slice A ids.length cap]
  have c0 := (hC.cell 0).trans (show _ = some (.int .i64 n) from rfl)
  have c1 := (hC.cell 1).trans (show _ = some (.slice A ids.length cap) from rfl)
  have hr0 := hr.below g0 hB
  have hB0 := Nat.le_trans hB g0.size
  have HC := Lib.hid (check25_any n A cap B ids _ hr0 hB0 hm)
  have Hw := Lib.hid hw
  clear hw
  go_enter Try.func36, Try.ntmps36
  go_wp2_with fail
  generalize w.alloc (.cells #[.int .i64 n, .slice A ids.length cap] 31) = w1 at *
  generalize hgc : w.heap.size = gc at *
  have HGc := Lib.hid hgc
  clear hgc
  refine HC.out.mono ?_
  rintro e w2 ⟨rfl, hb⟩
  replace hC := hC.of hb
  replace hr0 := hr0.below hb hB0
  replace hB0 := Nat.le_trans hB0 hb.size
  replace g0 := Grew.trans g0 hb
  clear hb HC c0 c1
  have c0 := (hC.cell 0).trans (show _ = some (.int .i64 n) from rfl)
  have c1 := (hC.cell 1).trans (show _ = some (.slice A ids.length cap) from rfl)
  by_cases he : chkM n ids = 0
  · obtain ⟨q1, q2, q3, q4⟩ := chkM_zero he
    have hn0 := (sumN_bd ids q2).1
    obtain ⟨N, rfl⟩ : ∃ N : Nat, n = (N : Int) := ⟨n.toNat, by omega⟩
    have hN : N ≤ 1048576 := by omega
    have HEB := Lib.hid (show encB (N : Int) ids = lebs (numsN N ids.length ids) by unfold encB; rw [if_pos he]; simp)
    have HE := Lib.hid he
    have HA := Lib.hid q2
    rw [he]
    clear he q2 q3 hn0
    go_upto_region 5 with (fail)
    have hown0 := own_lit w2 w2.heap.size 49 #[.int .u64 (N : Int), .int .u64 (ids.length : Int)] (Nat.le_refl _) (by unfold maxLen; simp)
    have g1 := grew_alloc w2 (.cells #[.int .u64 (N : Int), .int .u64 (ids.length : Int)] 49)
    replace hC := hC.of g1
    have hr1 := hr0.below g1 hB0
    have c1' := (hC.cell 1).trans (show _ = some (.slice A ids.length cap) from rfl)
    have hbb : Below w2.heap.size w2 (w2.alloc (.cells #[.int .u64 (N : Int), .int .u64 (ids.length : Int)] 49)) := g1
    have hs1 : w2.heap.size < (w2.alloc (.cells #[.int .u64 (N : Int), .int .u64 (ids.length : Int)] 49)).heap.size := by simp
    clear hr0 c0 c1 g1
    generalize w2.alloc (.cells #[.int .u64 (N : Int), .int .u64 (ids.length : Int)] 49) = w3 at *
    generalize hg2 : w2.heap.size = g2 at *
    have HG2 := Lib.hid hg2
    clear hg2
    go_wp2_with fail
    go_loopw [5, 27] (fun v i wr => ∃ (k : Nat) (A5 : Option Addr) (c5 : Nat), k ≤ ids.length ∧ i = .int .i64 k ∧ v = .slice A5 (2 + 2 * k) c5 ∧ wr.ownsRow g2 49 1 (.slice A5 (2 + 2 * k) c5) (2 + 2 * k) (natU (numsN N ids.length (ids.take k))) ∧ Below g2 w3 wr) (fun _ i _ => ids.length - (intOf i).toNat)
    case atStart => exact ⟨0, _, _, Nat.zero_le _, rfl, rfl, hown0, Below.refl _ _⟩
    case round =>
      clear hown0
      obtain ⟨k, A5, c5, hk, rfl, rfl, hown, hb⟩ := hrel
      have hgs : g2 ≤ wr.heap.size := Nat.le_trans (Nat.le_of_lt hs1) hb.size
      by_cases hlt : k < ids.length
      · obtain ⟨ad, rfl, hbl, d0, d1⟩ := ids_at (hr1.below hb hB0) hlt
        have HNk := Lib.hid (numsN_take (n := N) (len := ids.length) hlt)
        obtain ⟨s, m, hx, hs, hm2⟩ := wfI_nat (Hw.out ids[k] (List.getElem_mem hlt)) (List.all_eq_true.1 HA.out _ (List.getElem_mem hlt))
        rw [hx] at HNk d0 d1
        simp only at d0 d1
        have e1 : idN ((s : Int), (m : Int)) = [m, s] := by simp [idN]
        rw [e1] at HNk
        clear hx e1
        have hX := Blk.new wr 51 #[.int .u64 (s : Int), .int .i64 (m : Int)]
        have gX := grew_alloc wr (.cells #[.int .u64 (s : Int), .int .i64 (m : Int)] 51)
        have hown1 := own_below hown gX
        have hb1 : Below g2 w3 (wr.alloc (.cells #[.int .u64 (s : Int), .int .i64 (m : Int)] 51)) := Below.trans (B := g2) hb (gX.mono hgs)
        have hgs1 := Nat.le_trans hgs gX.size
        clear hown hb gX
        go_upto_region 8 with (fail)
        have p0 := (hX.cell 0).trans (show _ = some (.int .u64 (s : Int)) from rfl)
        have p1 := (hX.cell 1).trans (show _ = some (.int .i64 (m : Int)) from rfl)
        generalize wr.alloc (.cells #[.int .u64 (s : Int), .int .i64 (m : Int)] 51) = wa at *
        generalize wr.heap.size = ga at *
        clear d0 d1
        have hsI : (s : Int) < 18446744073709551616 := by omega
        clear hs
        go_wp2_with (at_builtin; refine wpList_append_row rfl (.tmp 31) (.tmp 37) rfl g2 elem_u64 (by rfl) (hown1.alloc _) _ (by rfl) (by rfl) (Blk.row (Blk.new wa 49 #[.int .u64 (m : Int), .int .u64 (s : Int)])) (by simp [Value.oneCell']) (by unfold maxLen; omega) (by omega) (by simp; omega) ?_; intro A6 c6 w6 hown6 hg6 _; have hb6 : Below g2 w3 w6 := Below.trans (B := g2) (Below.trans (B := g2) hb1 ((grew_alloc wa _).mono hgs1)) (below_grown hg6 (by simp; omega) (own_lt hown1)))
        go_roundw
        case rel =>
          refine ⟨k + 1, A6, c6, by omega, by go_num, by rw [show 2 + 2 * (k + 1) = 2 + 2 * k + 2 by omega], ?_, hb6⟩
          rw [HNk.out, natU_append, show 2 + 2 * (k + 1) = 2 + 2 * k + 2 by omega]
          exact hown6
        case measure => simp [intOf]; omega
      · obtain rfl : k = ids.length := by omega
        rw [List.take_length] at hown
        have hnl := numsN_len N ids.length ids
        have HBd := Lib.hid (numsN_bd (n := N) (len := ids.length) hN (by omega) Hw.out HA.out)
        generalize numsN N ids.length ids = nums at *
        rw [← hnl] at hown ⊢
        have hrow := own_row hown
        have hnn : nums.length ≤ 2050 := by omega
        have g4 : Grew w wr := Below.trans (B := w.heap.size) (Below.trans (B := w.heap.size) g0 (hbb.mono (by rw [← HG2.out]; exact g0.size))) (hb.mono (by rw [← HG2.out]; exact g0.size))
        clear hnl hown hbb hb hC hr1 c1' hgs hs1
        go_wp2_with fail
        obtain ⟨wo, hwo⟩ : ∃ wo : World, wo = wr := ⟨_, rfl⟩
        rw [← hwo] at hrow g4
        have hk0 : Grew wo wr := by rw [hwo]; exact Grew.refl _
        clear hwo
        go_loopw [8, 42] (fun v i wx => ∃ (k : Nat) (A8 : Option Addr) (c8 : Nat), k ≤ nums.length ∧ i = .int .i64 k ∧ v = .slice A8 (lebs (nums.take k)).length c8 ∧ wx.ownsRow wo.heap.size 5 1 (.slice A8 (lebs (nums.take k)).length c8) (lebs (nums.take k)).length ((lebs (nums.take k)).map (.int .u8)) ∧ Grew wo wx) (fun _ i _ => nums.length - (intOf i).toNat)
        case atStart => exact ⟨0, none, 0, Nat.zero_le _, rfl, rfl, World.ownsRow_nil _ _ _ _, hk0⟩
        case round =>
          clear hk0
          obtain ⟨k, A8, c8, hk, rfl, rfl, hown, hg⟩ := hrel
          have hgz := hg.size
          by_cases hlt : k < nums.length
          · obtain ⟨ad, rfl, hbl, d0⟩ := natU_at (hrow.up hg (Nat.le_refl _)) hlt
            have HLk := Lib.hid (lebs_take hlt)
            have hll := lebs_len (nums.take k)
            have hlt2 : (nums.take k).length ≤ k := List.length_take_le _ _
            have HPU := Lib.hid (putUint_any nums[k] wr (HBd.out _ (List.getElem_mem hlt)))
            have hlb := leb_len 10 nums[k]
            have hlb2 : (lebN nums[k]).length ≤ 10 := hlb
            clear hlb
            generalize lebN nums[k] = lb at *
            generalize nums[k] = x at *
            go_wp2_with fail
            refine HPU.out.mono ?_
            rintro e w7 ⟨A7, c7, rfl, hown7, hb7⟩
            have hown8 := own_below hown hb7
            have hg7 := hg.trans hb7
            clear HPU hown hg hb7 d0
            go_wp2_with (at_builtin; refine wpList_append_row rfl (.tmp 46) (.tmp 48) rfl wo.heap.size elem_u8 (by rfl) hown8 _ (by rfl) (by simp) (own_row hown7) (ones_u8 _) (by unfold maxLen; omega) (by omega) hg7.size ?_; intro A9 c9 w9 hown9 hg9 _; have hg10 : Grew wo w9 := Below.trans (B := wo.heap.size) hg7 (below_grown hg9 hg7.size (own_lt hown8)))
            go_roundw
            case rel =>
              refine ⟨k + 1, A9, c9, by omega, by go_num, by rw [HLk.out, List.length_append], ?_, hg10⟩
              rw [HLk.out, List.length_append, List.map_append]
              exact hown9
            case measure => simp [intOf]; omega
          · obtain rfl : k = nums.length := by omega
            rw [List.take_length] at hown ⊢
            go_wp2_with fail
            go_ret2
            refine ⟨A8, c8, ?_, ?_, Grew.trans g4 hg⟩
            · rw [HEB.out, HE.out]; rfl
            · rw [HEB.out]; exact own_mono hown g4.size
  · have HE := Lib.hid (show encB n ids = [] by unfold encB; rw [if_neg he])
    have hne : (chkM n ids != 0) = true := by rw [bne_iff_ne]; exact he
    have HK : Hid (chkM n ids = chkM n ids) := Lib.hid rfl
    generalize hk : chkM n ids = er at *
    have HK2 := Lib.hid hk
    clear hk he HK
    go_wp2_with fail
    go_ret2
    refine ⟨none, 0, ?_, ?_, g0⟩
    · rw [HE.out, HK2.out]; rfl
    · rw [HE.out]; exact World.ownsRow_nil _ _ _ _

end Go.Proofs.Ytnjhipnfhapngaa
