/-
  stockyardlaw25.ManifestConcats returns true.
-/
import Derived.Test.YtnjhipnfhapngaaKnown25
import Derived.Test.YtnjhipnfhapngaaFaulty25
import Derived.Test.YtnjhipnfhapngaaRefConcat25
import Derived.Test.YtnjhipnfhapngaaWhole25
import Derived.Test.YtnjhipnfhapngaaBuild25
import Derived.Deep.DeepCutAuto
namespace Go.Proofs.Ytnjhipnfhapngaa
set_option linter.unusedVariables false
set_option linter.unusedSimpArgs false
set_option linter.unnecessarySimpa false
open Go.RowKit
attribute [local go_sem ↓] Go.wp_at_zero Go.wp_at_succ

def cellLen (w : World) (p : Addr) : Nat := match w.cell? p with | some (.slice _ n _) => n | _ => 0
theorem cellLen_of {w : World} {p : Addr} {A : Option Addr} {n c : Nat} (h : w.cell? p = some (.slice A n c)) : cellLen w p = n := by unfold cellLen; rw [h]
theorem jnS_assoc {a b c : IdZ} (ha : vldB a.1 a.2 = true) (hb : vldB b.1 b.2 = true) (hc : vldB c.1 c.2 = true) (h : a.2 + b.2 + c.2 ≤ 1048576) : jnS (jnS a b) c = jnS a (jnS b c) := by
  have b1 := vldB_iff.1 ha
  have b2 := vldB_iff.1 hb
  have b3 := vldB_iff.1 hc
  have e1 : jnS a b = (fadd (fmul a.1 (powI b.2)) b.1, a.2 + b.2) := by unfold jnS; rw [joinR_ok ha hb (by omega)]
  have e2 : jnS b c = (fadd (fmul b.1 (powI c.2)) c.1, b.2 + c.2) := by unfold jnS; rw [joinR_ok hb hc (by omega)]
  rw [e1, e2]
  unfold jnS
  simp only
  rw [joinR_ok (join_vld ha hb (by omega)) hc (by omega), joinR_ok ha (join_vld hb hc (by omega)) (by omega), fassoc, powI_add (by omega) (by omega) (by omega), Int.add_assoc]
theorem jnS_zero {a : IdZ} (ha : vldB a.1 a.2 = true) (h0 : 0 ≤ a.1) : jnS a (0, 0) = a := by
  have b1 := vldB_iff.1 ha
  unfold jnS
  simp only
  rw [joinR_ok ha vld_null (by omega), powI_zero, fmul_one (vld_fp ha h0), fadd_zero (vld_fp ha h0)]
  simp
theorem cat_zero {n1 n2 : Int} {l1 l2 : List IdZ} (h : catE n1 l1 n2 l2 = 0) : chkM n1 l1 = 0 ∧ chkM n2 l2 = 0 := by
  unfold catE at h
  split at h
  · rename_i h1
    split at h
    · rename_i h2; exact ⟨h1, h2⟩
    · rename_i h2; exact absurd h h2
  · rename_i h1; exact absurd h h1
theorem whS_app {l1 : List IdZ} (hw1 : ∀ x ∈ l1, WfI x) (ho1 : l1.all okId = true) : ∀ (k : Nat) (l2 : List IdZ), l2.length = k → (∀ x ∈ l2, WfI x) → l2.all okId = true → sumN l1 + sumN l2 ≤ 1048576 → whS (l1 ++ l2) = jnS (whS l1) (whS l2) := by
  intro k
  induction k with
  | zero =>
    intro l2 h _ _ hs
    obtain rfl := List.eq_nil_of_length_eq_zero h
    have hs1 : sumN l1 ≤ 1048576 := by simpa [sumN] using hs
    have := whS_inv hw1 ho1 hs1 l1.length (Nat.le_refl _)
    rw [List.take_length] at this
    rw [List.append_nil]
    exact (jnS_zero this.2.1 this.1).symm
  | succ k ih =>
    intro l2 h hw2 ho2 hs
    have hlt : k < l2.length := by omega
    have hst := sumN_take l2 k hlt
    have hfull : l2.take (k + 1) = l2 := List.take_of_length_le (by omega)
    rw [hfull] at hst
    have hok := ok_at ho2 hlt
    have hs1 := (sumN_bd _ ho1).1
    have ho2' := all_prefix l2 k ho2
    have hs2 := (sumN_bd _ ho2').1
    have e := ih (l2.take k) (by rw [List.length_take]; omega) (fun x hx => hw2 x (List.mem_of_mem_take hx)) ho2' (by omega)
    have i1 := whS_inv hw1 ho1 (by omega) l1.length (Nat.le_refl _)
    rw [List.take_length] at i1
    have i2 := whS_inv hw2 ho2 (by omega) k (by omega)
    have hv : vldB l2[k].1 l2[k].2 = true := by
      have hx := List.all_eq_true.1 ho2 _ (List.getElem_mem hlt)
      unfold okId at hx; rw [Bool.and_eq_true] at hx; exact hx.1
    have e2 : whS l2 = jnS (whS (l2.take k)) l2[k] := by conv => lhs; rw [← hfull, whS_take hlt]
    have e3 : whS (l1 ++ l2) = jnS (whS (l1 ++ l2.take k)) l2[k] := by
      conv => lhs; rw [← hfull, List.take_succ_eq_append_getElem hlt, ← List.append_assoc]
      unfold whS
      rw [List.foldl_append]
      rfl
    rw [e3, e, e2, jnS_assoc i1.2.1 i2.2.1 hv (by omega)]
theorem whS_join2 {n1 n2 : Int} {l1 l2 : List IdZ} (hw1 : ∀ x ∈ l1, WfI x) (hw2 : ∀ x ∈ l2, WfI x) (h1 : chkM n1 l1 = 0) (h2 : chkM n2 l2 = 0) (h3 : chkM (n1 + n2) (l1 ++ l2) = 0) :
    idErr (joinR (whS l1).1 (whS l1).2 (whS l2).1 (whS l2).2) = .tuple #[.agg #[.int .u64 (whS (l1 ++ l2)).1, .int .i64 (whS (l1 ++ l2)).2], .int .i64 0] ∧ 0 ≤ (whS l1).1 ∧ 0 ≤ (whS l1).2 ∧ 0 ≤ (whS l2).1 ∧ 0 ≤ (whS l2).2 := by
  obtain ⟨_, o1, s1, b1⟩ := chkM_zero h1
  obtain ⟨_, o2, s2, b2⟩ := chkM_zero h2
  obtain ⟨_, _, s3, b3⟩ := chkM_zero h3
  have i1 := whS_inv hw1 o1 b1 l1.length (Nat.le_refl _)
  have i2 := whS_inv hw2 o2 b2 l2.length (Nat.le_refl _)
  rw [List.take_length] at i1 i2
  have hs : sumN l1 + sumN l2 ≤ 1048576 := by omega
  have e := whS_app hw1 o1 l2.length l2 rfl hw2 o2 hs
  have c1 := (sumN_bd _ o1).1
  have c2 := (sumN_bd _ o2).1
  refine ⟨?_, i1.1, by omega, i2.1, by omega⟩
  have hj := joinR_ok i1.2.1 i2.2.1 (by omega)
  rw [e]
  unfold jnS idErr
  rw [hj]

set_option maxRecDepth 4000 in
set_option maxHeartbeats 2000000 in
theorem lawMConcats_any (A : Option Addr) (cap : Nat) (ls : List Int) (w : World) (hr : Row w w.heap.size A (ls.map (.int .i64))) (hz : ∀ z ∈ ls, -9223372036854775808 ≤ z ∧ z ≤ 9223372036854775807) (hm : ls.length ≤ 9223372036854775807) :
    Calls Try.prog 11 #[.slice A ls.length cap] w fun e w' => e = .returned (.bool true) ∧ Below w.heap.size w w' := by
  have hT := Tp.new (cap := cap) hr (Nat.le_refl _) hz hm
  have g0 := grew_alloc w (.cells #[.slice A ls.length cap, .int .i64 0] 26)
  have hch0 : Ch (At w.heap.size) w (w.alloc (.cells #[.slice A ls.length cap, .int .i64 0] 26)) := Ch.of_below g0
  clear hz g0 hr
  go_enter Try.func11, Try.ntmps11
  go_wp2_with fail
  generalize w.alloc (.cells #[.slice A ls.length cap, .int .i64 0] 26) = w1 at *
  have hT1 := hT
  have htw := hT.lt
  clear hT
  refine (faulty25_any _ _ _ _ hT1 (by omega) (by omega)).mono ?_
  rintro e w2 ⟨na, A1, c1, la, rfl, hla, hwa, hna1, hna2, hownA, hT, hch⟩
  have HWa := Lib.hid hwa
  replace hch0 := hch0.trans hch
  have hs12 := hch.size
  clear hT1 hch hwa
  go_wp2_with fail
  refine (faulty25_any _ _ _ _ hT (by omega) (by omega)).mono ?_
  rintro e w3 ⟨nb, A2, c2, lb, rfl, hlb, hwb, hnb1, hnb2, hownB, hT3, hch⟩
  have HWb := Lib.hid hwb
  have hs23 := hch.size
  have hdis0 : ∀ g, (Value.slice A1 la.length c1).ownBlock = some g → (Value.slice A2 lb.length c2).ownBlock ≠ some g := fun g hg hs => by
    have h1 := (hownA.lt g hg).2
    have h2 := own_lt hownB g hs
    omega
  replace hownA := own_ch hownA hch (fun g hg hs => by have := own_lt hownA g hg; have h' : g = w.heap.size := hs; omega)
  replace hownB := own_mono hownB hs12
  replace hch0 := hch0.trans hch
  clear hT hch hwb
  have gA := grew_alloc w3 (.cells #[.int .i64 na, .slice A1 la.length c1] 31)
  have hBa := Blk.new w3 31 #[.int .i64 na, .slice A1 la.length c1]
  have z1 : (w3.alloc (.cells #[.int .i64 na, .slice A1 la.length c1] 31)).heap.size = w3.heap.size + 1 := by simp
  have gB := grew_alloc (w3.alloc (.cells #[.int .i64 na, .slice A1 la.length c1] 31)) (.cells #[.int .i64 nb, .slice A2 lb.length c2] 31)
  have hBb := Blk.new (w3.alloc (.cells #[.int .i64 na, .slice A1 la.length c1] 31)) 31 #[.int .i64 nb, .slice A2 lb.length c2]
  rw [z1] at hBb
  replace hBa := hBa.of gB
  have gAB := gA.trans gB
  replace hownA := own_below hownA gAB
  replace hownB := own_below hownB gAB
  have hT := hT3.of gAB
  replace hch0 := hch0.next gAB
  have htw3 := hT3.lt
  have hw13 : w1.heap.size ≤ w3.heap.size := by omega
  clear gA gB gAB z1 hT3
  go_upto_region 3 with (fail)
  generalize (w3.alloc (.cells #[.int .i64 na, .slice A1 la.length c1] 31)).alloc (.cells #[.int .i64 nb, .slice A2 lb.length c2] 31) = w5 at *
  generalize hga : w3.heap.size = ga at *
  clear hga w3
  have hbw : Below w.heap.size w w5 := hch0.below (Nat.le_refl _) (fun i hi => by rw [hi]; exact Nat.le_refl _)
  clear hch0
  have hw15 : w1.heap.size ≤ w5.heap.size := by have := hBa.lt; omega
  obtain ⟨hbase, hhb⟩ : ∃ hbase, hbase = w1.heap.size := ⟨_, rfl⟩
  rw [← hhb] at hownA hownB hw13 hw15 htw
  clear hhb
  go_cut [38] (fun s38 wx => ∃ bb : Bool, s38 = .bool bb ∧ Hid (bb = true → 0 < la.length ∧ chkM na la = 0) ∧ Blk wx ga 31 #[.int .i64 na, .slice A1 la.length c1] ∧ wx.ownsRow hbase 51 2 (.slice A1 la.length c1) la.length (idsC la) ∧
    Blk wx (ga + 1) 31 #[.int .i64 nb, .slice A2 lb.length c2] ∧ wx.ownsRow hbase 51 2 (.slice A2 lb.length c2) lb.length (idsC lb) ∧ Below w.heap.size w wx ∧ w5.heap.size ≤ wx.heap.size)
  case first =>
    go_wp2_with fail
    refine (tapeNext_any _ _ _ _ _ hT (by omega) (by omega)).mono ?_
    rintro e w6 ⟨x, rfl, hx, _, hch⟩
    replace hownA := own_ch hownA hch (fun g hg hs => by have := own_lt hownA g hg; have h' : g = w.heap.size := hs; omega)
    replace hownB := own_ch hownB hch (fun g hg hs => by have := own_lt hownB g hg; have h' : g = w.heap.size := hs; omega)
    replace hBa := hBa.ch hch (show ¬ ga = w.heap.size by omega)
    replace hBb := hBb.ch hch (show ¬ ga + 1 = w.heap.size by omega)
    replace hbw : Below w.heap.size w w6 := Below.trans (B := w.heap.size) hbw (hch.below (Below.size hbw) (fun i hi => by rw [hi]; exact Nat.le_refl _))
    have hw56 := hch.size
    clear hch hT
    have a0 := (hBa.cell 0).trans (show _ = some (.int .i64 na) from rfl)
    have a1 := (hBa.cell 1).trans (show _ = some (.slice A1 la.length c1) from rfl)
    by_cases x0 : x = 0
    rotate_left
    · have xI : ¬ (x : Int) = 0 := by omega
      go_wp2_with fail
      go_meet
      exact ⟨false, rfl, Lib.hid (fun h => by cases h), hBa, hownA, hBb, hownB, hbw, by omega⟩
    subst x0
    clear hx
    by_cases hl0 : 0 < la.length
    rotate_left
    · have hlI : ¬ (0 : Int) < (la.length : Int) := by omega
      go_wp2_with fail
      go_meet
      exact ⟨false, rfl, Lib.hid (fun h => by cases h), hBa, hownA, hBb, hownB, hbw, by omega⟩
    have hlI : (0 : Int) < (la.length : Int) := by omega
    go_wp2_with fail
    refine (refCheck25_any na A1 c1 w6.heap.size la w6 (own_row hownA) (Nat.le_refl _) (by omega)).mono ?_
    rintro e w7 ⟨rfl, hb⟩
    replace hBa := hBa.of hb
    replace hBb := hBb.of hb
    replace hownA := own_below hownA hb
    replace hownB := own_below hownB hb
    have hw67 := hb.size
    replace hbw := Grew.trans hbw hb
    clear hb a0 a1
    by_cases hc : chkM na la = 0
    rotate_left
    · have hne : (chkM na la == 0) = false := by rw [beq_eq_false_iff_ne]; exact hc
      generalize chkM na la = er at *
      go_wp2_with fail
      go_meet
      exact ⟨false, rfl, Lib.hid (fun h => by cases h), hBa, hownA, hBb, hownB, hbw, by omega⟩
    rw [hc]
    have HCk := Lib.hid hc
    clear hc
    go_wp2_with fail
    go_meet
    exact ⟨true, rfl, Lib.hid (fun _ => ⟨hl0, HCk.out⟩), hBa, hownA, hBb, hownB, hbw, by omega⟩
  case rest =>
  rename_i HKK
  obtain ⟨bb, rfl, Hbb, hBa, hownA, hBb, hownB, hbw, hw5⟩ := hcut
  obtain ⟨w7, hw7⟩ : ∃ w7, w7 = wc := ⟨_, rfl⟩
  subst hw7
  clear hT
  refine HKK _ _ ?_
  clear HKK
  go_cut [] (fun wx => ∃ (nx : Int) (Ax : Option Addr) (cx : Nat) (lx : List IdZ), Blk wx ga 31 #[.int .i64 nx, .slice Ax lx.length cx] ∧ wx.ownsRow hbase 51 2 (.slice Ax lx.length cx) lx.length (idsC lx) ∧ lx.length ≤ 1024 ∧ (∀ x ∈ lx, WfI x) ∧
    Blk wx (ga + 1) 31 #[.int .i64 nb, .slice A2 lb.length c2] ∧ wx.ownsRow hbase 51 2 (.slice A2 lb.length c2) lb.length (idsC lb) ∧ Below w.heap.size w wx)
  case first =>
    by_cases hbt : bb = true
    rotate_left
    · obtain rfl : bb = false := by simpa using hbt
      go_wp2_with fail
      go_meet
      exact ⟨na, A1, c1, la, hBa, hownA, by omega, HWa.out, hBb, hownB, hbw⟩
    subst hbt
    obtain ⟨hl0, hc⟩ := Hbb.out rfl
    have hok := (chkM_zero hc).2.1
    have hnb := cat_bd hc hc
    have hnb0 : 0 ≤ na ∧ na ≤ 1048576 := ⟨hnb.1.1, hnb.1.2.1⟩
    clear hnb
    obtain ⟨s1, s2⟩ := ok_at hok hl0
    have HW0 := Lib.hid (HWa.out _ (List.getElem_mem hl0))
    have HG0 := Lib.hid (show ∀ j, (la ++ List.replicate j la[0])[0]? = some la[0] from fun j => by rw [List.getElem?_append_left hl0, List.getElem?_eq_getElem hl0])
    clear hc hok
    generalize la[0] = x0 at *
    obtain ⟨y1, y2⟩ := x0
    simp only at s1 s2
    go_wp2_with fail
    go_loopw [] (fun wr => ∃ (j : Nat) (Aj : Option Addr) (cj : Nat), la.length + j ≤ 1024 ∧ Blk wr ga 31 #[.int .i64 (na + j * y2), .slice Aj (la.length + j) cj] ∧ wr.ownsRow hbase 51 2 (.slice Aj (la.length + j) cj) (la.length + j) (idsC (la ++ List.replicate j (y1, y2))) ∧
      Blk wr (ga + 1) 31 #[.int .i64 nb, .slice A2 lb.length c2] ∧ wr.ownsRow hbase 51 2 (.slice A2 lb.length c2) lb.length (idsC lb) ∧ Below w.heap.size w wr ∧ hbase ≤ wr.heap.size ∧ (∀ g, (Value.slice Aj (la.length + j) cj).ownBlock = some g → (Value.slice A2 lb.length c2).ownBlock ≠ some g)) (fun wr => 1024 - cellLen wr ⟨ga, 1, none⟩)
    case atStart => exact ⟨0, A1, c1, by omega, by simpa using hBa, by simpa using hownA, hBb, hownB, hbw, by omega, hdis0⟩
    case round =>
      clear hBa hownA hBb hownB hbw
      obtain ⟨j, Aj, cj, hj, hBa, hownA, hBb, hownB, hbw, hwr, hdis⟩ := hrel
      have c0 := (hBa.cell 0).trans (show _ = some (.int .i64 (na + j * y2)) from rfl)
      have c1' := (hBa.cell 1).trans (show _ = some (.slice Aj (la.length + j) cj) from rfl)
      have HCL := Lib.hid (cellLen_of c1')
      have hlj : (la ++ List.replicate j (y1, y2)).length = la.length + j := by rw [List.length_append, List.length_replicate]
      by_cases hlt : la.length + j < 1024
      · obtain ⟨ad, hadd, hbl, d0, d1⟩ := ids_at (own_row hownA) (k := 0) (by rw [hlj]; omega)
        have hg0 := HG0.out j
        rw [List.getElem?_eq_getElem (by rw [hlj]; omega)] at hg0
        rw [Option.some.inj hg0, show ad.add (0 * 2) = ad by unfold Addr.add; simp] at d0 d1
        subst hadd
        have hP0 : 0 ≤ (j : Int) * y2 := Int.mul_nonneg (by omega) (by omega)
        have hP1 : (j : Int) * y2 ≤ 8388608 := by
          have := Int.mul_le_mul (show (j : Int) ≤ 1024 by omega) (show y2 ≤ 8192 by omega) (by omega) (by omega)
          omega
        have HP := Lib.hid (show ((j + 1 : Nat) : Int) * y2 = (j : Int) * y2 + y2 by rw [Int.natCast_add, Int.add_mul]; simp)
        generalize (j : Int) * y2 = P at *
        have hltI : (la.length : Int) + (j : Int) < 1024 := by omega
        have hposI : (0 : Int) < (la.length : Int) + (j : Int) := by omega
        have hba := own_blk_ne hownA hBa (by decide)
        have hbb := own_blk_ne hownA hBb (by decide)
        clear hlj hg0
        go_upto_region 5 with (fail)
        refine wp_region_g 9 (by kernel_rfl) ?_
        refine AllC.head 0 9 (fuel := 1) (by first | exact fun h k => Grew.trans h k | exact fun h k => cls_grew h k) (grew_drew _) (by rfl) (by kernel_rfl) ?_
        simp only [List.take_succ_cons, List.take_zero, List.drop_succ_cons, List.drop_zero]
        repeat (first
          | (refine HeadC.val (by rfl) ?_
             apply Exists.intro
             refine ⟨fun w' hw' => ?_, ?_⟩
             · (have hf_0 := cell_up hw' c0; have hf_1 := cell_up hw' c1'; have hf_2 := cell_up hw' d1; (go_simp) <;> (try go_ints) <;> with_reducible rfl)
             try simp only [Act.put, List.setIfInBounds_toArray, List.set_cons_zero, List.set_cons_succ])
          | (refine HeadC.shut (by rfl) ?_
             try simp only [Act.put, List.setIfInBounds_toArray, List.set_cons_zero, List.set_cons_succ]))
        refine HeadC.nil ?_
        refine AllC.tail 9 (by rfl) (by kernel_rfl) ?_
        intro wt hwt
        simp only [List.drop_succ_cons, List.drop_zero]
        have hgt := (grew_drew wr).trans hwt
        replace hBa := hBa.of hgt
        replace hBb := hBb.of hgt
        replace hownA := own_below hownA hgt
        replace hownB := own_below hownB hgt
        have hgw := hgt.size
        replace hbw := Grew.trans hbw hgt
        clear hgt hwt c0 c1' d0 d1
        have c0 := (hBa.cell 0).trans (show _ = some (.int .i64 (na + P)) from rfl)
        have f0 := hBa.frozen 0
        have hll := hBa.lt
        go_upto_region 6 with (fail)
        have hk5 : Ch (At ga) wt (wt.setCell ⟨ga, 0, none⟩ (.int .i64 (na + P + y2))) := (Ch.refl (At ga) wt).set_at 0 _
        have hB5 : Blk (wt.setCell ⟨ga, 0, none⟩ (.int .i64 (na + P + y2))) ga 31 #[.int .i64 (na + P + y2), .slice (some ad) (la.length + j) cj] := hBa.set_ 0 _
        replace hBb := hBb.ch hk5 (show ¬ ga + 1 = ga by omega)
        replace hownA := own_ch hownA hk5 (fun i hi h => hba (by rw [hi]; exact congrArg some h))
        replace hownB := own_ch hownB hk5 (fun i hi h => own_blk_ne hownB hBa (by decide) (by rw [hi]; exact congrArg some h))
        replace hbw : Below w.heap.size w (wt.setCell ⟨ga, 0, none⟩ (.int .i64 (na + P + y2))) := Below.trans (B := w.heap.size) hbw (hk5.below (Below.size hbw) (fun i hi => by have h' : i = ga := hi; omega))
        have hsz5 := hk5.size
        clear c0 f0 hll hBa hk5
        have hBa := hB5
        clear hB5
        generalize wt.setCell ⟨ga, 0, none⟩ (.int .i64 (na + P + y2)) = ws at *
        have c1' := (hBa.cell 1).trans (show _ = some (.slice (some ad) (la.length + j) cj) from rfl)
        obtain ⟨ad2, hadd, _, d0, d1⟩ := ids_at (own_row hownA) (k := 0) (by rw [List.length_append, List.length_replicate]; omega)
        have hg0 := HG0.out j
        rw [List.getElem?_eq_getElem (by rw [List.length_append, List.length_replicate]; omega)] at hg0
        rw [Option.some.inj hg0, show ad2.add (0 * 2) = ad2 by unfold Addr.add; simp] at d0 d1
        obtain rfl := Option.some.inj hadd
        clear hg0 hadd
        have hsl : (Value.slice (some ad) (la.length + j) cj).ownBlock = some ad.block := rfl
        refine wp_region_cls (Ch (fun i => (Value.slice (some ad) (la.length + j) cj).ownBlock = some i) ws) 8 (by kernel_rfl) ?_
        have hc0 := (Ch.refl (fun i => (Value.slice (some ad) (la.length + j) cj).ownBlock = some i) ws).drew
        refine AllC.head 0 5 (fuel := 5) (by first | exact fun h k => Grew.trans h k | exact fun h k => cls_grew h k) (hc0) (by rfl) (by kernel_rfl) ?_
        simp only [List.take_succ_cons, List.take_zero, List.drop_succ_cons, List.drop_zero]
        repeat (first
          | (refine HeadC.val (by rfl) ?_
             apply Exists.intro
             refine ⟨fun w' hw' => ?_, ?_⟩
             · (have hf_0 := hw'.cell c1' hba; (go_simp) <;> (try go_ints) <;> with_reducible rfl)
             try simp only [Act.put, List.setIfInBounds_toArray, List.set_cons_zero, List.set_cons_succ])
          | (refine HeadC.shut (by rfl) ?_
             try simp only [Act.put, List.setIfInBounds_toArray, List.set_cons_zero, List.set_cons_succ]))
        refine HeadC.nil ?_
        refine AllC.one 5 (by kernel_rfl) rfl ?_
        intro wg hg K hK
        have hg0 := (grew_drew ws).trans hg
        have k0 := cell_up hg0 d0
        have k1 := cell_up hg0 d1
        go_simp
        refine hK.out _ _ (Ch.of_below hg0) ?_
        clear hK K hc0 k0 k1 hg
        try simp only [Act.put, List.setIfInBounds_toArray, List.set_cons_zero, List.set_cons_succ]
        obtain ⟨wq, hwq⟩ : ∃ wq, wq = wg := ⟨_, rfl⟩
        subst hwq
        refine AllC.one 6 (by kernel_rfl) rfl ?_
        intro wg hg K hK
        go_simp
        have hg1 := (hg0.trans hg).trans (grew_alloc wg (.cells #[.int .u64 y1, .int .i64 y2] 51))
        have hown7 := own_below hownA hg1
        have hrow7 := Blk.row (Blk.new wg 51 #[.int .u64 y1, .int .i64 y2])
        refine hK.out _ _ (Ch.of_below hg1) ?_
        clear hK K hg hg0
        try simp only [Act.put, List.setIfInBounds_toArray, List.set_cons_zero, List.set_cons_succ]
        generalize wg.alloc (.cells #[.int .u64 y1, .int .i64 y2] 51) = w9 at *
        generalize wg.heap.size = g9 at *
        clear wg
        refine AllC.one 7 (by kernel_rfl) rfl ?_
        intro wg hg K hK
        have hg2 := hg1.trans hg
        have hown8 := own_below hown7 hg
        refine step_append_row rfl (.tmp 53) (.tmp 58) rfl hbase elem_id (by rfl) hown8 _ (by rfl) (by rfl) (hrow7.up hg (Nat.le_refl _)) (by simp [Value.oneCell']) (by unfold maxLen; omega) (by omega) (by have := hg2.size; omega) ?_
        intro A8 c8 w8 hown9 hg8 hwh
        have hdis8 : ∀ g, (Value.slice A8 (la.length + j + 1) c8).ownBlock = some g → (Value.slice A2 lb.length c2).ownBlock ≠ some g := fun g hg hs => by
          rcases hwh with h | h
          · exact hdis g (h ▸ hg) hs
          · have h1 := (hownB.lt g hs).2
            have h2 := hg2.size
            have h3 : wg.heap.size = g := Option.some.inj (h.symm.trans hg)
            omega
        have hc8 : Ch (fun i => (Value.slice (some ad) (la.length + j) cj).ownBlock = some i) ws w8 := (Ch.of_below hg2).trans (Ch.of_own hg8)
        refine hK.out _ _ hc8 ?_
        clear hK K hg hg8 hown8 hown7 hrow7 hg1 hg2 hwh
        try simp only [Act.put, List.setIfInBounds_toArray, List.set_cons_zero, List.set_cons_succ]
        refine AllC.tail 8 (by rfl) (by kernel_rfl) ?_
        intro wt hwt
        simp only [List.drop_succ_cons, List.drop_zero]
        have hc9 := hc8.next hwt
        have hown10 : wt.ownsRow hbase 51 2 (.slice A8 (la.length + j + 1) c8) (la.length + j + 1) (idsC (la ++ List.replicate (j + 1) (y1, y2))) := by
          rw [List.replicate_succ', ← List.append_assoc, idsC_append]; exact own_below hown9 hwt
        replace hBa := hBa.ch hc9 hba
        replace hBb := hBb.ch hc9 hbb
        replace hownB := own_ch hownB hc9 (fun i hi h => hdis i h hi)
        replace hbw : Below w.heap.size w wt := Below.trans (B := w.heap.size) hbw (hc9.below (Below.size hbw) (fun i hi => by have := own_lt hownA i hi; omega))
        have hsz9 := hc9.size
        clear hown9 hwt hc8 hc9 hownA d0 d1 c1'
        have c1' := (hBa.cell 1).trans (show _ = some (.slice (some ad) (la.length + j) cj) from rfl)
        have f1 := hBa.frozen 1
        have hll := hBa.lt
        have hne10 : (Value.slice A8 (la.length + j + 1) c8).ownBlock ≠ some ga := own_blk_ne hown10 hBa (by decide)
        go_wp2_with fail
        have hk6 : Ch (At ga) wt (wt.setCell ⟨ga, 1, none⟩ (.slice A8 (la.length + j + 1) c8)) := (Ch.refl (At ga) wt).set_at 1 _
        have hB6 : Blk (wt.setCell ⟨ga, 1, none⟩ (.slice A8 (la.length + j + 1) c8)) ga 31 #[.int .i64 (na + P + y2), .slice A8 (la.length + j + 1) c8] := hBa.set_ 1 _
        have hrel' : cellLen (wt.setCell ⟨ga, 1, none⟩ (.slice A8 (la.length + j + 1) c8)) ⟨ga, 1, none⟩ = la.length + j + 1 := cellLen_of (A := A8) (c := c8) ((hB6.cell 1).trans rfl)
        go_roundw
        case rel =>
          exact ⟨j + 1, A8, c8, by omega, by rw [HP.out, ← Int.add_assoc]; exact hB6, own_ch hown10 hk6 (fun i hi h => hne10 (by have e : i = ga := h; subst e; exact hi)), hBb.ch hk6 (show ¬ ga + 1 = ga by omega), own_ch hownB hk6 (fun i hi h => own_blk_ne hownB hBa (by decide) (by rw [hi]; exact congrArg some h)),
            Below.trans (B := w.heap.size) hbw (hk6.below (Below.size hbw) (fun i hi => by have h' : i = ga := hi; omega)), by have := hk6.size; omega, hdis8⟩
        case measure => rw [hrel', HCL.out]; omega
      · have hjj : la.length + j = 1024 := by omega
        have hltI : ¬ (la.length : Int) + (j : Int) < 1024 := by omega
        have hlx : (la ++ List.replicate j (y1, y2)).length = la.length + j := by rw [List.length_append, List.length_replicate]
        go_wp2_with fail
        go_meet
        exact ⟨na + j * y2, Aj, cj, la ++ List.replicate j (y1, y2), by rw [hlx]; exact hBa, by rw [hlx]; exact hownA, by rw [hlx]; omega, fun x hx => (List.mem_append.1 hx).elim (HWa.out x) (fun h => by rw [List.eq_of_mem_replicate h]; exact HW0.out), hBb, hownB, hbw⟩
  case rest =>
    obtain ⟨nx, Ax, cx, lx, hBa, hownA, hlx, hwx, hBb, hownB, hbw⟩ := hcut
    have HWx := Lib.hid hwx
    obtain ⟨w8, hw8⟩ : ∃ w8, w8 = wc := ⟨_, rfl⟩
    subst hw8
    clear hwx hw5 hdis0 Hbb
    have HWxb : Hid (∀ x ∈ lx ++ lb, WfI x) := Lib.hid (fun x hx => (List.mem_append.1 hx).elim (HWx.out x) (HWb.out x))
    have hra := own_row hownA
    have hrb := own_row hownB
    have a0 := (hBa.cell 0).trans (show _ = some (.int .i64 (nx)) from rfl)
    have a1 := (hBa.cell 1).trans (show _ = some (.slice Ax lx.length cx) from rfl)
    have b0 := (hBb.cell 0).trans (show _ = some (.int .i64 (nb)) from rfl)
    have b1 := (hBb.cell 1).trans (show _ = some (.slice A2 lb.length c2) from rfl)
    go_wp2_with fail
    refine (concat25_any nx Ax cx lx nb A2 c2 w8.heap.size lb w8 hra hrb (Nat.le_refl _) (by omega) (by omega)).mono ?_
    rintro e w9 ⟨hb, hres⟩
    by_cases hE : catE nx lx nb lb = 0
    · rw [if_pos hE] at hres
      obtain ⟨A6, c6, rfl, hown6, hck6⟩ := hres
      have HRf := Lib.hid (fun W (hr : Row W w8.heap.size Ax (idsC lx)) (hr2 : Row W w8.heap.size A2 (idsC lb)) (h : w8.heap.size ≤ W.heap.size) => refConcat25_any nx Ax cx lx nb A2 c2 w8.heap.size lb W hr hr2 h (by omega) (by omega))
      unfold CatRes at HRf
      simp only [if_pos hE] at HRf
      obtain ⟨ck1, ck2⟩ := cat_zero hE
      have CK1 := Lib.hid ck1
      have CK2 := Lib.hid ck2
      have CK3 := Lib.hid hck6
      clear ck1 ck2 hck6 hE
      have hBx := Blk.new w9 31 #[.int .i64 (nx + nb), .slice A6 (lx.length + lb.length) c6]
      have gX := grew_alloc w9 (.cells #[.int .i64 (nx + nb), .slice A6 (lx.length + lb.length) c6] 31)
      replace hb := Grew.trans hb gX
      replace hBa := hBa.of hb
      replace hBb := hBb.of hb
      replace hownA := own_below hownA hb
      replace hownB := own_below hownB hb
      replace hbw := Grew.trans hbw hb
      replace hown6 := own_below hown6 gX
      replace hra := hra.up hb (Nat.le_refl _)
      replace hrb := hrb.up hb (Nat.le_refl _)
      have hw89 := hb.size
      clear hb gX a0 a1 b0 b1
      go_upto_region 8 with (fail)
      generalize w9.alloc (.cells #[.int .i64 (nx + nb), .slice A6 (lx.length + lb.length) c6] 31) = w10 at *
      generalize w9.heap.size = gx at *
      clear w9
      have a0 := (hBa.cell 0).trans (show _ = some (.int .i64 (nx)) from rfl)
      have a1 := (hBa.cell 1).trans (show _ = some (.slice Ax lx.length cx) from rfl)
      have b0 := (hBb.cell 0).trans (show _ = some (.int .i64 (nb)) from rfl)
      have b1 := (hBb.cell 1).trans (show _ = some (.slice A2 lb.length c2) from rfl)
      go_wp2_with fail
      refine (HRf.out w10 hra hrb hw89).mono ?_
      clear HRf
      rintro e w11 ⟨hb, hres⟩
      obtain ⟨A8, c8, rfl, hown8, _⟩ := hres
      have hBy := Blk.new w11 31 #[.int .i64 (nx + nb), .slice A8 (lx.length + lb.length) c8]
      have gX := grew_alloc w11 (.cells #[.int .i64 (nx + nb), .slice A8 (lx.length + lb.length) c8] 31)
      replace hb := Grew.trans hb gX
      replace hBa := hBa.of hb
      replace hBb := hBb.of hb
      replace hBx := hBx.of hb
      replace hownA := own_below hownA hb
      replace hownB := own_below hownB hb
      replace hown6 := own_below hown6 hb
      replace hbw := Grew.trans hbw hb
      replace hown8 := own_below hown8 gX
      clear hb gX a0 a1 b0 b1 hra hrb
      go_upto_region 9 with (fail)
      generalize w11.alloc (.cells #[.int .i64 (nx + nb), .slice A8 (lx.length + lb.length) c8] 31) = w12 at *
      generalize w11.heap.size = gy at *
      clear w11
      go_wp2_with fail
      refine (known25_any _).mono ?_
      rintro e w13 ⟨rfl, hb⟩
      replace hBa := hBa.of hb
      replace hBb := hBb.of hb
      replace hBx := hBx.of hb
      replace hBy := hBy.of hb
      replace hownA := own_below hownA hb
      replace hownB := own_below hownB hb
      replace hown6 := own_below hown6 hb
      replace hown8 := own_below hown8 hb
      replace hbw := Grew.trans hbw hb
      clear hb
      have x0 := (hBx.cell 0).trans (show _ = some (.int .i64 (nx + nb)) from rfl)
      have x1 := (hBx.cell 1).trans (show _ = some (.slice A6 (lx.length + lb.length) c6) from rfl)
      have y0 := (hBy.cell 0).trans (show _ = some (.int .i64 (nx + nb)) from rfl)
      have y1 := (hBy.cell 1).trans (show _ = some (.slice A8 (lx.length + lb.length) c8) from rfl)
      have HSm := same25_yes (nx + nb) A6 A8 c6 c8 w13.heap.size (lx ++ lb) w13 (own_row hown6) (own_row hown8) (Nat.le_refl _) (by rw [List.length_append]; omega)
      rw [List.length_append] at HSm
      have HSm := Lib.hid HSm
      go_wp2_with fail
      refine HSm.out.mono ?_
      clear HSm
      rintro e w14 ⟨rfl, hb⟩
      replace hBa := hBa.of hb
      replace hBb := hBb.of hb
      replace hBx := hBx.of hb
      replace hownA := own_below hownA hb
      replace hownB := own_below hownB hb
      replace hown6 := own_below hown6 hb
      replace hbw := Grew.trans hbw hb
      clear hb x0 x1 y0 y1 hBy hown8
      obtain ⟨wz, hwz⟩ : ∃ wz, wz = w14 := ⟨_, rfl⟩
      subst hwz
      have a0 := (hBa.cell 0).trans (show _ = some (.int .i64 (nx)) from rfl)
      have a1 := (hBa.cell 1).trans (show _ = some (.slice Ax lx.length cx) from rfl)
      go_upto_region 13 with (fail)
      have HWh1 := whole25_any (nx) Ax cx wz.heap.size (lx) wz (own_row hownA) HWx.out (Nat.le_refl _) (by omega)
      rw [show whE (nx) (lx) = whS (lx) by unfold whE; rw [if_pos CK1.out], CK1.out] at HWh1
      have HWh1 := Lib.hid HWh1
      generalize hu1 : whS (lx) = u1 at HWh1
      have HU1 := Lib.hid hu1
      clear hu1
      go_wp2_with fail
      refine HWh1.out.mono ?_
      clear HWh1
      rintro e wn ⟨rfl, hb⟩
      have hI1 := Blk.new wn 51 #[.int .u64 u1.1, .int .i64 u1.2]
      have gI := grew_alloc wn (.cells #[.int .u64 u1.1, .int .i64 u1.2] 51)
      have hbI := Grew.trans hb gI
      replace hBb := hBb.of hbI
      replace hBx := hBx.of hbI
      replace hownB := own_below hownB hbI
      replace hown6 := own_below hown6 hbI
      replace hbw := Grew.trans hbw hbI
      clear hb gI hbI
      go_upto_region 14 with (fail)
      generalize wn.alloc (.cells #[.int .u64 u1.1, .int .i64 u1.2] 51) = wz2 at *
      generalize wn.heap.size = gi1 at *
      clear wn
      obtain ⟨wz, hwz⟩ : ∃ wz, wz = wz2 := ⟨_, rfl⟩
      subst hwz
      clear a0 a1 hBa hownA
      have b0 := (hBb.cell 0).trans (show _ = some (.int .i64 (nb)) from rfl)
      have b1 := (hBb.cell 1).trans (show _ = some (.slice A2 lb.length c2) from rfl)
      have HWh2 := whole25_any (nb) A2 c2 wz.heap.size (lb) wz (own_row hownB) HWb.out (Nat.le_refl _) (by omega)
      rw [show whE (nb) (lb) = whS (lb) by unfold whE; rw [if_pos CK2.out], CK2.out] at HWh2
      have HWh2 := Lib.hid HWh2
      generalize hu2 : whS (lb) = u2 at HWh2
      have HU2 := Lib.hid hu2
      clear hu2
      go_wp2_with fail
      refine HWh2.out.mono ?_
      clear HWh2
      rintro e wn ⟨rfl, hb⟩
      have hI2 := Blk.new wn 51 #[.int .u64 u2.1, .int .i64 u2.2]
      have gI := grew_alloc wn (.cells #[.int .u64 u2.1, .int .i64 u2.2] 51)
      have hbI := Grew.trans hb gI
      replace hI1 := hI1.of hbI
      replace hBx := hBx.of hbI
      replace hown6 := own_below hown6 hbI
      replace hbw := Grew.trans hbw hbI
      clear hb gI hbI
      go_upto_region 15 with (fail)
      generalize wn.alloc (.cells #[.int .u64 u2.1, .int .i64 u2.2] 51) = wz2 at *
      generalize wn.heap.size = gi2 at *
      clear wn
      obtain ⟨wz, hwz⟩ : ∃ wz, wz = wz2 := ⟨_, rfl⟩
      subst hwz
      clear b0 b1 hBb hownB
      have x0 := (hBx.cell 0).trans (show _ = some (.int .i64 (nx + nb)) from rfl)
      have x1 := (hBx.cell 1).trans (show _ = some (.slice A6 (lx.length + lb.length) c6) from rfl)
      have HWh3 := whole25_any (nx + nb) A6 c6 wz.heap.size (lx ++ lb) wz (own_row hown6) HWxb.out (Nat.le_refl _) (by rw [List.length_append]; omega)
      rw [show whE (nx + nb) (lx ++ lb) = whS (lx ++ lb) by unfold whE; rw [if_pos CK3.out], CK3.out] at HWh3
      rw [List.length_append] at HWh3
      have HWh3 := Lib.hid HWh3
      generalize hu3 : whS (lx ++ lb) = u3 at HWh3
      have HU3 := Lib.hid hu3
      clear hu3
      go_wp2_with fail
      refine HWh3.out.mono ?_
      clear HWh3
      rintro e wn ⟨rfl, hb⟩
      have hI3 := Blk.new wn 51 #[.int .u64 u3.1, .int .i64 u3.2]
      have gI := grew_alloc wn (.cells #[.int .u64 u3.1, .int .i64 u3.2] 51)
      have hbI := Grew.trans hb gI
      replace hI1 := hI1.of hbI
      replace hI2 := hI2.of hbI
      replace hbw := Grew.trans hbw hbI
      clear hb gI hbI
      go_upto_region 16 with (fail)
      generalize wn.alloc (.cells #[.int .u64 u3.1, .int .i64 u3.2] 51) = wz2 at *
      generalize wn.heap.size = gi3 at *
      clear wn
      obtain ⟨wz, hwz⟩ : ∃ wz, wz = wz2 := ⟨_, rfl⟩
      subst hwz
      clear x0 x1 hBx hown6
      have i10 := (hI1.cell 0).trans (show _ = some (.int .u64 u1.1) from rfl)
      have i11 := (hI1.cell 1).trans (show _ = some (.int .i64 u1.2) from rfl)
      have i20 := (hI2.cell 0).trans (show _ = some (.int .u64 u2.1) from rfl)
      have i21 := (hI2.cell 1).trans (show _ = some (.int .i64 u2.2) from rfl)
      obtain ⟨v1, v2, v3, v4, v5⟩ := whS_join2 HWx.out HWb.out CK1.out CK2.out CK3.out
      rw [HU1.out, HU2.out, HU3.out] at v1
      rw [HU1.out] at v2 v3
      rw [HU2.out] at v4 v5
      have HJ := Lib.hid v1
      clear v1
      go_wp2_with fail
      refine (join_any u1.1 u1.2 u2.1 u2.2 v2 v4 (by omega) (by omega) _).mono ?_
      rintro e wn ⟨rfl, hb⟩
      rw [HJ.out]
      have hI4 := Blk.new wn 51 #[.int .u64 u3.1, .int .i64 u3.2]
      have gI := grew_alloc wn (.cells #[.int .u64 u3.1, .int .i64 u3.2] 51)
      have hbI := Grew.trans hb gI
      replace hI3 := hI3.of hbI
      replace hbw := Grew.trans hbw hbI
      have i30 := (hI3.cell 0).trans (show _ = some (.int .u64 u3.1) from rfl)
      have i31 := (hI3.cell 1).trans (show _ = some (.int .i64 u3.2) from rfl)
      have i40 := (hI4.cell 0).trans (show _ = some (.int .u64 u3.1) from rfl)
      have i41 := (hI4.cell 1).trans (show _ = some (.int .i64 u3.2) from rfl)
      clear hb gI hbI i10 i11 i20 i21
      go_wp2_with fail
      go_ret
      exact ⟨ret_bool rfl, hbw⟩
    · rw [if_neg hE] at hres
      subst hres
      have HNE := Lib.hid hE
      have hne : (catE nx lx nb lb != 0) = true := by rw [bne_iff_ne]; exact hE
      have HRf := Lib.hid (fun W (hr : Row W w8.heap.size Ax (idsC lx)) (hr2 : Row W w8.heap.size A2 (idsC lb)) (h : w8.heap.size ≤ W.heap.size) => refConcat25_any nx Ax cx lx nb A2 c2 w8.heap.size lb W hr hr2 h (by omega) (by omega))
      unfold CatRes at HRf
      simp only [if_neg hE] at HRf
      clear hE
      generalize catE nx lx nb lb = er at *
      have hBx := Blk.new w9 31 #[.int .i64 (0), .slice none 0 0]
      have gX := grew_alloc w9 (.cells #[.int .i64 (0), .slice none 0 0] 31)
      replace hb := Grew.trans hb gX
      replace hBa := hBa.of hb
      replace hBb := hBb.of hb
      replace hownA := own_below hownA hb
      replace hownB := own_below hownB hb
      replace hbw := Grew.trans hbw hb
      replace hra := hra.up hb (Nat.le_refl _)
      replace hrb := hrb.up hb (Nat.le_refl _)
      have hw89 := hb.size
      clear hb gX a0 a1 b0 b1
      go_upto_region 8 with (fail)
      generalize w9.alloc (.cells #[.int .i64 (0), .slice none 0 0] 31) = w10 at *
      generalize w9.heap.size = gx at *
      clear w9
      have a0 := (hBa.cell 0).trans (show _ = some (.int .i64 (nx)) from rfl)
      have a1 := (hBa.cell 1).trans (show _ = some (.slice Ax lx.length cx) from rfl)
      have b0 := (hBb.cell 0).trans (show _ = some (.int .i64 (nb)) from rfl)
      have b1 := (hBb.cell 1).trans (show _ = some (.slice A2 lb.length c2) from rfl)
      go_wp2_with fail
      refine (HRf.out w10 hra hrb hw89).mono ?_
      clear HRf
      rintro e w11 ⟨hb, hres⟩
      subst hres
      have hBy := Blk.new w11 31 #[.int .i64 (0), .slice none 0 0]
      have gX := grew_alloc w11 (.cells #[.int .i64 (0), .slice none 0 0] 31)
      replace hb := Grew.trans hb gX
      replace hBa := hBa.of hb
      replace hBb := hBb.of hb
      replace hBx := hBx.of hb
      replace hownA := own_below hownA hb
      replace hownB := own_below hownB hb
      replace hbw := Grew.trans hbw hb
      clear hb gX a0 a1 b0 b1 hra hrb
      go_upto_region 9 with (fail)
      generalize w11.alloc (.cells #[.int .i64 (0), .slice none 0 0] 31) = w12 at *
      generalize w11.heap.size = gy at *
      clear w11
      go_wp2_with fail
      refine (known25_any _).mono ?_
      rintro e w13 ⟨rfl, hb⟩
      replace hBa := hBa.of hb
      replace hBb := hBb.of hb
      replace hBx := hBx.of hb
      replace hBy := hBy.of hb
      replace hownA := own_below hownA hb
      replace hownB := own_below hownB hb
      replace hbw := Grew.trans hbw hb
      clear hb
      have x0 := (hBx.cell 0).trans (show _ = some (.int .i64 (0)) from rfl)
      have x1 := (hBx.cell 1).trans (show _ = some (.slice none 0 0) from rfl)
      have y0 := (hBy.cell 0).trans (show _ = some (.int .i64 (0)) from rfl)
      have y1 := (hBy.cell 1).trans (show _ = some (.slice none 0 0) from rfl)
      have HSm := same25_yes 0 none none 0 0 w13.heap.size [] w13 Row.nil Row.nil (Nat.le_refl _) (by simp)
      simp only [List.length_nil] at HSm
      have HSm := Lib.hid HSm
      go_wp2_with fail
      refine HSm.out.mono ?_
      clear HSm
      rintro e w14 ⟨rfl, hb⟩
      replace hbw := Grew.trans hbw hb
      go_wp2_with fail
      go_ret
      exact ⟨ret_bool rfl, hbw⟩

end Go.Proofs.Ytnjhipnfhapngaa
