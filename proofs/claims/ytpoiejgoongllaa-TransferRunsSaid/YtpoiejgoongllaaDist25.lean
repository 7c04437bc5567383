/-
  stockyardmake.Distinct.
-/
import Derived.Test.YtpoiejgoongllaaKnown25
import Derived.Test.YtpoiejgoongllaaTx
import Derived.Lib.Bytes
namespace Go.Proofs.Ytpoiejgoongllaa
set_option linter.unusedVariables false
set_option linter.unusedSimpArgs false
set_option linter.unnecessarySimpa false
open Go.RowKit
attribute [local go_sem ↓] Go.wp_at_zero Go.wp_at_succ

theorem bytes_inj {xs ys : List Int} (hx : Byt xs) (hy : Byt ys) (h : (strOfNums xs).toList = (strOfNums ys).toList) : xs = ys := by
  have h2 : (xs.map fun n => UInt8.ofNat n.toNat) = ys.map fun n => UInt8.ofNat n.toNat := by
    rw [Go.Lib.strOfNums_toList, Go.Lib.strOfNums_toList] at h
    exact h
  clear h
  induction xs generalizing ys with
  | nil => cases ys with
    | nil => rfl
    | cons y ys => simp at h2
  | cons x xs ih =>
    cases ys with
    | nil => simp at h2
    | cons y ys =>
      rw [List.map_cons, List.map_cons, List.cons.injEq] at h2
      have a := hx x (List.mem_cons_self ..)
      have b := hy y (List.mem_cons_self ..)
      have e := congrArg UInt8.toNat h2.1
      rw [UInt8.toNat_ofNat', UInt8.toNat_ofNat'] at e
      have e2 : x = y := by omega
      rw [e2, ih (fun z hz => hx z (List.mem_cons_of_mem _ hz)) (fun z hz => hy z (List.mem_cons_of_mem _ hz)) h2.2]
/-- parts with one ID are the same text -/
def DistP (ps : List Part) : Prop := ∀ i j (hi : i < ps.length) (hj : j < ps.length), idOf ps[i].zs = idOf ps[j].zs → ps[i].zs = ps[j].zs
def DistU (ps : List Part) (k : Nat) : Prop := ∀ i j (hi : i < ps.length) (hj : j < ps.length), i < k → j < k → idOf ps[i].zs = idOf ps[j].zs → ps[i].zs = ps[j].zs
def DistV (ps : List Part) (k m : Nat) : Prop := ∀ (hk : k < ps.length) j (hj : j < ps.length), j < m → idOf ps[k].zs = idOf ps[j].zs → ps[k].zs = ps[j].zs
theorem DistU.zero {ps : List Part} : DistU ps 0 := fun i j hi hj h => by omega
theorem DistV.zero {ps : List Part} {k : Nat} : DistV ps k 0 := fun hk j hj h => by omega
theorem DistU.step {ps : List Part} {k : Nat} (h : DistU ps k) (hv : DistV ps k k) : DistU ps (k + 1) := fun i j hi hj h1 h2 e => by
  by_cases a : i = k
  · by_cases b : j = k
    · subst a; subst b; rfl
    · subst a; exact hv hi j hj (by omega) e
  · by_cases b : j = k
    · subst b; exact (hv hj i hi (by omega) e.symm).symm
    · exact h i j hi hj (by omega) (by omega) e
theorem DistU.all {ps : List Part} (h : DistU ps ps.length) : DistP ps := fun i j hi hj e => h i j hi hj hi hj e
theorem DistV.step {ps : List Part} {k m : Nat} (h : DistV ps k m) (hs : ∀ (hk : k < ps.length) (hm : m < ps.length), idOf ps[k].zs = idOf ps[m].zs → ps[k].zs = ps[m].zs) : DistV ps k (m + 1) := fun hk j hj h1 e => by
  by_cases a : j = m
  · subst a; exact hs hk hj e
  · exact h hk j hj (by omega) e

set_option maxHeartbeats 2000000 in
theorem distinct_any (L : Option Addr) (lc B : Nat) (ps : List Part) (w : World) (hl : Row w B L (ps.map Part.v)) (hp : Lie w B ps) (hB : B ≤ w.heap.size) (hz : ∀ p ∈ ps, Byt p.zs) (hzl : ∀ p ∈ ps, p.zs.length ≤ 1048576) (hm : ps.length ≤ 1048576) :
    Calls Try.prog 12 #[.slice L ps.length lc] w fun e w' => ∃ b : Bool, e = .returned (.bool b) ∧ (b = true → DistP ps) ∧ Below w.heap.size w w' := by
  have Hp := Lib.hid hp
  have Hz := Lib.hid hz
  have Hzl := Lib.hid hzl
  clear hp hz hzl
  go_enter Try.func12, Try.ntmps12
  go_wp2_with fail
  go_loopw [3, 4] (fun s i wr => ∃ (k : Nat) (A : Option Addr) (c : Nat), k ≤ ps.length ∧ i = .int .i64 k ∧ s = .slice A k c ∧ wr.ownsRow w.heap.size 53 2 (.slice A k c) k (idsC (idsOf (ps.take k))) ∧ Hid (DistU ps k) ∧ Below w.heap.size w wr) (fun _ i _ => ps.length - (intOf i).toNat)
  case atStart => exact ⟨0, none, 0, Nat.zero_le _, rfl, rfl, World.ownsRow_nil _ _ _ _, Lib.hid DistU.zero, Below.refl _ _⟩
  case round =>
    obtain ⟨k, A, c, hk, rfl, rfl, hown, HU, hb⟩ := hrel
    have hws := hb.size
    by_cases hlt : k < ps.length
    · obtain ⟨ad, hadd, hbl, hc⟩ := part_at (hl.below hb hB) hlt
      subst hadd
      have hrk := (Hp.out _ (List.getElem_mem hlt)).below hb hB
      have hzb := Hz.out _ (List.getElem_mem hlt)
      have hzn := Hzl.out _ (List.getElem_mem hlt)
      have hsn := Lib.hid (idsOf_snoc ps k hlt)
      have hHO := Lib.hid (refOf_any ps[k].A ps[k].cap B ps[k].zs wr hrk (by omega) hzb (by omega))
      rw [show idOf ps[k].zs = (sumZ ps[k].zs, (ps[k].zs.length : Int)) from rfl] at hsn
      generalize hzs : ps[k].zs = ys at *
      have HZS := Lib.hid hzs
      clear hzs
      generalize ps[k].A = pA at *
      generalize ps[k].cap = pc at *
      go_wp2_with fail
      refine hHO.out.mono ?_
      rintro e w2 ⟨rfl, hb2⟩
      have hown2 := own_below hown hb2
      have hb3 : Below w.heap.size w w2 := hb.trans (hb2.mono hws)
      have hga := grew_alloc w2 (.cells #[.int .u64 (sumZ ys), .int .i64 ys.length] 53)
      go_wp2_with (at_builtin; refine wpList_append_row rfl (.tmp 12) (.tmp 18) rfl w.heap.size elem_id (by rfl) (hown2.alloc _) _ (by rfl) (by rfl) (Blk.row (Blk.new w2 53 #[.int .u64 (sumZ ys), .int .i64 ys.length])) (by simp [Value.oneCell']) (by unfold maxLen; omega) (by omega) (by have := Below.size hb3; simp; omega) ?_; intro A6 c6 w6 hown6 hg6 _; have hb6 : Below w.heap.size w w6 := Below.trans (B := w.heap.size) (hb3.alloc (Below.size hb3) (.cells #[.int .u64 (sumZ ys), .int .i64 ys.length] 53)) ((Ch.of_own hg6).below (by have := Below.size hb3; simp; omega) (fun i hi => own_lt hown2 i hi)))
      have hown7 : w6.ownsRow w.heap.size 53 2 (.slice A6 (k + 1) c6) (k + 1) (idsC (idsOf (ps.take (k + 1)))) := by rw [hsn.out, idsC_append]; exact hown6
      clear hown6 hown hown2 hga hb2 hb3 hc hrk hHO hg6
      have hws6 := hb6.size
      have hrid : Row w6 w6.heap.size A6 (idsC (idsOf (ps.take (k + 1)))) := own_row hown7
      have hil : (idsOf (ps.take (k + 1))).length = k + 1 := by rw [idsOf_length, List.length_take]; omega
      have hiz : ∀ j (h : j < (idsOf (ps.take (k + 1))).length) (hj : j < ps.length), (idsOf (ps.take (k + 1)))[j] = idOf ps[j].zs := fun j h hj => by simp [idsOf]
      have HIL := Lib.hid hil
      have HIZ := Lib.hid hiz
      clear hil hiz
      go_loopw [5] (fun j wx => ∃ m : Nat, m ≤ k ∧ j = .int .i64 m ∧ Hid (DistV ps k m) ∧ Grew w6 wx) (fun j _ => k - (intOf j).toNat)
      case atStart => exact ⟨0, Nat.zero_le _, rfl, Lib.hid DistV.zero, Grew.refl _⟩
      case round =>
        obtain ⟨m, hm', rfl, HV, hd⟩ := hrel
        by_cases hltm : m < k
        · have hbr : Below w.heap.size w wr := Below.trans (B := w.heap.size) hb6 (hd.mono hws6)
          obtain ⟨ad2, hadd, _, hck⟩ := part_at (hl.below hbr hB) hlt
          obtain rfl : ad = ad2 := by injection hadd
          obtain ⟨_, hadd, _, hcm⟩ := part_at (hl.below hbr hB) (show m < ps.length by omega)
          obtain rfl := (Option.some.inj hadd)
          obtain ⟨ai, hai, _, k0, k1⟩ := ids_at (hrid.up hd (Nat.le_refl _)) (k := k) (by rw [HIL.out]; omega)
          obtain ⟨ai2, hai2, _, m0, m1⟩ := ids_at (hrid.up hd (Nat.le_refl _)) (k := m) (by rw [HIL.out]; omega)
          subst hai
          obtain rfl := (Option.some.inj hai2)
          rw [HIZ.out k (by rw [HIL.out]; omega) hlt] at k0 k1
          rw [HIZ.out m (by rw [HIL.out]; omega) (by omega)] at m0 m1
          have hmp : m < ps.length := by omega
          have hBr := Nat.le_trans hB (Below.size hbr)
          have r1 := (Hp.out ps[k] (List.getElem_mem hlt)).below hbr hB
          have r2 := (Hp.out ps[m] (List.getElem_mem hmp)).below hbr hB
          have z1 := Hz.out ps[k] (List.getElem_mem hlt)
          have z2 := Hz.out ps[m] (List.getElem_mem hmp)
          have HVS := Lib.hid (fun h => HV.out.step (m := m) h)
          have hst : ∀ (_ : idOf ps[k].zs = idOf ps[m].zs → ps[k].zs = ps[m].zs), DistV ps k (m + 1) := fun h => HV.out.step (fun _ _ => h)
          clear HVS HV
          have Hst := Lib.hid hst
          clear hst
          generalize ps[k].zs = yk at *
          generalize ps[m].zs = ym at *
          generalize ps[k].A = Ak at *
          generalize ps[m].A = Am at *
          generalize ps[k].cap = ck at *
          generalize ps[m].cap = cm at *
          clear HIL HIZ Hz Hzl Hp hbl
          have q1 : (k : Int) < (k : Int) + 1 := by omega
          have q2 : (m : Int) < (k : Int) + 1 := by omega
          unfold idOf at k0 k1 m0 m1
          simp only at k0 k1 m0 m1
          by_cases hid : idOf yk = idOf ym
          · have hid' := hid
            unfold idOf at hid'
            obtain ⟨e1, e2⟩ := Prod.mk.inj hid'
            clear hid'
            by_cases hs : (strOfNums yk).toList = (strOfNums ym).toList
            · obtain rfl := bytes_inj z1 z2 hs
              have HD := Lib.hid (Hst.out (fun _ => rfl))
              clear hid e1 e2 hs z2 Hst
              go_wp2_with fail
              refine wp_region_g 21 (by kernel_rfl) ?_
              refine AllC.head 0 21 (fuel := 1) (by first | exact fun h k => Grew.trans h k | exact fun h k => cls_grew h k) (grew_drew _) (by rfl) (by kernel_rfl) ?_
              simp only [List.take_succ_cons, List.take_zero, List.drop_succ_cons, List.drop_zero]
              repeat (first
                | (refine HeadC.val (by rfl) ?_
                   apply Exists.intro
                   refine ⟨fun w' hw' => ?_, ?_⟩
                   · (have hf_0 := cell_up hw' k0; have hf_1 := cell_up hw' k1; have hf_2 := cell_up hw' m0; have hf_3 := cell_up hw' m1; have hf_4 := cell_up hw' hck; have hf_5 := cell_up hw' hcm; have hf_6 := conv_row' (r1.up hw' hBr) ck; have hf_7 := conv_row' (r2.up hw' hBr) cm; (go_simp) <;> (try go_ints) <;> with_reducible rfl)
                   try simp only [Act.put, List.setIfInBounds_toArray, List.set_cons_zero, List.set_cons_succ])
                | (refine HeadC.shut (by rfl) ?_
                   try simp only [Act.put, List.setIfInBounds_toArray, List.set_cons_zero, List.set_cons_succ]))
              refine HeadC.nil ?_
              refine AllC.tail 21 (by rfl) (by kernel_rfl) ?_
              intro wt hwt
              simp only [List.drop_succ_cons, List.drop_zero]
              have hg1 : Grew w6 wt := Grew.trans hd ((grew_drew _).trans hwt)
              clear r1 r2 hck hcm k0 k1 m0 m1
              go_wp2_with fail
              go_roundw
              case rel => exact ⟨m + 1, by omega, by go_num, HD, hg1⟩
              case measure => simp [intOf]; omega
            · rw [e1] at k0
              rw [e2] at k1
              have hs2 : ((strOfNums yk).toList == (strOfNums ym).toList) = false := beq_eq_false_iff_ne.2 hs
              clear hid e1 Hst hs
              go_wp2_with fail
              refine wp_region_g 21 (by kernel_rfl) ?_
              refine AllC.head 0 21 (fuel := 1) (by first | exact fun h k => Grew.trans h k | exact fun h k => cls_grew h k) (grew_drew _) (by rfl) (by kernel_rfl) ?_
              simp only [List.take_succ_cons, List.take_zero, List.drop_succ_cons, List.drop_zero]
              repeat (first
                | (refine HeadC.val (by rfl) ?_
                   apply Exists.intro
                   refine ⟨fun w' hw' => ?_, ?_⟩
                   · (have hf_0 := cell_up hw' k0; have hf_1 := cell_up hw' k1; have hf_2 := cell_up hw' m0; have hf_3 := cell_up hw' m1; have hf_4 := cell_up hw' hck; have hf_5 := cell_up hw' hcm; have hf_6 := conv_row' (r1.up hw' hBr) ck; have hf_7 := conv_row' (r2.up hw' hBr) cm; (go_simp) <;> (try go_ints) <;> with_reducible rfl)
                   try simp only [Act.put, List.setIfInBounds_toArray, List.set_cons_zero, List.set_cons_succ])
                | (refine HeadC.shut (by rfl) ?_
                   try simp only [Act.put, List.setIfInBounds_toArray, List.set_cons_zero, List.set_cons_succ]))
              refine HeadC.nil ?_
              refine AllC.tail 21 (by rfl) (by kernel_rfl) ?_
              intro wt hwt
              simp only [List.drop_succ_cons, List.drop_zero]
              have hg1 : Grew w6 wt := Grew.trans hd ((grew_drew _).trans hwt)
              clear r1 r2 hck hcm k0 k1 m0 m1
              go_wp2_with fail
              go_ret
              exact ⟨false, rfl, (fun h => absurd h (by decide)), Below.trans (B := w.heap.size) hb6 (hg1.mono hws6)⟩
          · have HD := Lib.hid (Hst.out (fun h => absurd h hid))
            clear Hst
            have hid2 : ¬ ((sumZ yk, (yk.length : Int)) : IdZ) = (sumZ ym, (ym.length : Int)) := hid
            clear hid
            rcases id_ne hid2 with e | ⟨e1, e⟩
            · clear hid2
              go_wp2_with fail
              refine wp_region_g 21 (by kernel_rfl) ?_
              refine AllC.head 0 21 (fuel := 1) (by first | exact fun h k => Grew.trans h k | exact fun h k => cls_grew h k) (grew_drew _) (by rfl) (by kernel_rfl) ?_
              simp only [List.take_succ_cons, List.take_zero, List.drop_succ_cons, List.drop_zero]
              repeat (first
                | (refine HeadC.val (by rfl) ?_
                   apply Exists.intro
                   refine ⟨fun w' hw' => ?_, ?_⟩
                   · (have hf_0 := cell_up hw' k0; have hf_1 := cell_up hw' k1; have hf_2 := cell_up hw' m0; have hf_3 := cell_up hw' m1; (go_simp) <;> (try go_ints) <;> with_reducible rfl)
                   try simp only [Act.put, List.setIfInBounds_toArray, List.set_cons_zero, List.set_cons_succ])
                | (refine HeadC.shut (by rfl) ?_
                   try simp only [Act.put, List.setIfInBounds_toArray, List.set_cons_zero, List.set_cons_succ]))
              refine HeadC.nil ?_
              refine AllC.tail 21 (by rfl) (by kernel_rfl) ?_
              intro wt hwt
              simp only [List.drop_succ_cons, List.drop_zero]
              have hg1 : Grew w6 wt := Grew.trans hd ((grew_drew _).trans hwt)
              clear r1 r2 hck hcm k0 k1 m0 m1
              go_wp2_with fail
              go_roundw
              case rel => exact ⟨m + 1, by omega, by go_num, HD, hg1⟩
              case measure => simp [intOf]; omega
            · clear hid2
              rw [e1] at k0
              go_wp2_with fail
              refine wp_region_g 21 (by kernel_rfl) ?_
              refine AllC.head 0 21 (fuel := 1) (by first | exact fun h k => Grew.trans h k | exact fun h k => cls_grew h k) (grew_drew _) (by rfl) (by kernel_rfl) ?_
              simp only [List.take_succ_cons, List.take_zero, List.drop_succ_cons, List.drop_zero]
              repeat (first
                | (refine HeadC.val (by rfl) ?_
                   apply Exists.intro
                   refine ⟨fun w' hw' => ?_, ?_⟩
                   · (have hf_0 := cell_up hw' k0; have hf_1 := cell_up hw' k1; have hf_2 := cell_up hw' m0; have hf_3 := cell_up hw' m1; (go_simp) <;> (try go_ints) <;> with_reducible rfl)
                   try simp only [Act.put, List.setIfInBounds_toArray, List.set_cons_zero, List.set_cons_succ])
                | (refine HeadC.shut (by rfl) ?_
                   try simp only [Act.put, List.setIfInBounds_toArray, List.set_cons_zero, List.set_cons_succ]))
              refine HeadC.nil ?_
              refine AllC.tail 21 (by rfl) (by kernel_rfl) ?_
              intro wt hwt
              simp only [List.drop_succ_cons, List.drop_zero]
              have hg1 : Grew w6 wt := Grew.trans hd ((grew_drew _).trans hwt)
              clear r1 r2 hck hcm k0 k1 m0 m1
              go_wp2_with fail
              go_roundw
              case rel => exact ⟨m + 1, by omega, by go_num, HD, hg1⟩
              case measure => simp [intOf]; omega
        · obtain rfl : m = k := by omega
          have hb7 : Below w.heap.size w wr := Below.trans (B := w.heap.size) hb6 (hd.mono hws6)
          have hown8 := own_below hown7 hd
          go_wp2_with fail
          go_roundw
          case rel => exact ⟨m + 1, A6, c6, by omega, by go_num, rfl, hown8, Lib.hid (HU.out.step HV.out), hb7⟩
          case measure => simp [intOf]; omega
    · go_wp2_with fail
      go_ret
      obtain rfl : k = ps.length := by omega
      exact ⟨true, rfl, fun _ => HU.out.all, hb⟩

end Go.Proofs.Ytpoiejgoongllaa
