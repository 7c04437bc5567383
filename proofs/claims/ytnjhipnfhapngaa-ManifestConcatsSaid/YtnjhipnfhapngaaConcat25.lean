/-
  slices.Grow of nil, slices.Concat, manifest.Concat.
-/
import Derived.Test.YtnjhipnfhapngaaKnown25
import Derived.Lib.AppendZerosOnto
namespace Go.Proofs.Ytnjhipnfhapngaa
set_option linter.unusedVariables false
set_option linter.unusedSimpArgs false
set_option linter.unnecessarySimpa false
open Go.RowKit
attribute [local go_sem ↓] Go.wp_at_zero Go.wp_at_succ

set_option maxHeartbeats 2000000 in
theorem growIds_any (n : Nat) (w : World) (hn : n ≤ 4096) :
    Calls Try.prog 81 #[.slice none 0 0, .int .i64 n] w fun e w' => ∃ A c, e = .returned (.slice A 0 c) ∧ w'.ownsRow w.heap.size 51 2 (.slice A 0 c) 0 [] ∧ Grew w w' := by
  have h1 : ¬ ((n : Int) < 0) := by omega
  by_cases h0 : n = 0
  · subst h0
    go_enter Try.func81, Try.ntmps81
    go_wp2_with fail
    go_ret
    exact ⟨none, 0, rfl, World.ownsRow_nil _ _ _ _, Grew.refl _⟩
  · obtain ⟨i0, hi, hz0, hs0, hb0⟩ := info_parts (show (Try.prog.info? 51).map (fun i => (i.zero, i.size, i.bytes)) = some (some (.agg #[.int .u64 0, .int .i64 0]), 2, 16) from by kernel_rfl)
    have hold : (Builtin.firstCells i0.size 0 (.slice none 0 0)).run Try.prog w.drew = .ok ([] : List Value).toArray w.drew := run_firstCells_none w.drew i0.size 0 0 0
    have hrz : ∀ ty, (Builtin.append_ #[29, 3] ty #[.slice none 0 0, .int .i64 (n : Int)]).run Try.prog w =
        .ok (.slice (some ⟨w.heap.size, 0, none⟩) n (grownCap w n 0 51)) (w.drew.alloc (.cells (([] : List Value).toArray ++ Builtin.zeroCells #[.int .u64 0, .int .i64 0] n ++ Builtin.zeroCells #[.int .u64 0, .int .i64 0] (grownCap w n 0 51 - n)) 51)) := fun ty => by
      have h := Lib.run_append_grow_zeros (P := Try.prog) w 29 3 ty 51 i0 (.agg #[.int .u64 0, .int .i64 0]) .i64 .i64 Try.underlying29 Try.underlying3 hi hz0 none 0 0 [] hold n (by omega) (by omega) (by omega) (by omega)
        (by rw [hb0]; omega) (by rw [Nat.zero_add]; exact growslice_fits (by omega) (by rw [hb0]; omega))
      rw [Nat.zero_add] at h
      exact h
    have hGn := grownCap_ge w n 0 51
    have hG63 := grownCap_le_maxLen w n 0 51 (by unfold maxLen; omega)
    unfold maxLen at hG63
    generalize grownCap w n 0 51 = G at *
    have hsz : (([] : List Value).toArray ++ Builtin.zeroCells #[.int .u64 0, .int .i64 0] n ++ Builtin.zeroCells #[.int .u64 0, .int .i64 0] (G - n)).size = G * 2 := by
      rw [Array.size_append, Array.size_append, size_zeroCells, size_zeroCells]
      simp
      omega
    generalize ([] : List Value).toArray ++ Builtin.zeroCells #[.int .u64 0, .int .i64 0] n ++ Builtin.zeroCells #[.int .u64 0, .int .i64 0] (G - n) = cells at *
    have hown : (w.drew.alloc (.cells cells 51)).ownsRow w.heap.size 51 2 (.slice (some ⟨w.heap.size, 0, none⟩) 0 G) 0 [] :=
      ⟨by simp, .inr ⟨w.heap.size, G, cells, rfl, Nat.le_refl _, heap_alloc_new w.drew _, Nat.zero_le _, by unfold maxLen; omega, hsz, by simp⟩⟩
    have HO := Lib.hid hown
    have hnI : ¬ (n : Int) = 0 := by omega
    have hnp : (0 : Int) < n := by omega
    clear hown hsz hold hi hz0 hs0 hb0
    go_enter Try.func81, Try.ntmps81
    go_wp2_with (at_builtin; refine Lib.wpList_append_run _ rfl _ _ _ _ rfl _ _ rfl rfl _ _ (hrz _) ?_)
    go_ret
    exact ⟨_, _, rfl, HO.out, (grew_drew w).trans (grew_alloc _ _)⟩

/-- a list of IDs as it lies -/
structure IdsP where
  A : Option Addr
  cap : Nat
  l : List IdZ
def IdsP.v (p : IdsP) : Value := .slice p.A p.l.length p.cap
def flatI (ps : List IdsP) : List IdZ := ps.flatMap IdsP.l
theorem flatI_take {ps : List IdsP} {k : Nat} (h : k < ps.length) : flatI (ps.take (k + 1)) = flatI (ps.take k) ++ ps[k].l := by
  unfold flatI; rw [List.take_succ_eq_append_getElem h, List.flatMap_append]; simp
theorem flatI_le (ps : List IdsP) (k : Nat) : (flatI (ps.take k)).length ≤ (flatI ps).length := by
  conv => rhs; rw [← List.take_append_drop k ps]
  unfold flatI
  rw [List.flatMap_append, List.length_append]
  omega

set_option maxHeartbeats 2000000 in
theorem concatIds_any (L : Option Addr) (lc B : Nat) (ps : List IdsP) (w : World) (hl : Row w B L (ps.map IdsP.v)) (hp : ∀ p ∈ ps, Row w B p.A (idsC p.l)) (hB : B ≤ w.heap.size) (hm : ps.length ≤ 1000) (hs : (flatI ps).length ≤ 4096) :
    Calls Try.prog 67 #[.slice L ps.length lc] w fun e w' => ∃ A c, e = .returned (.slice A (flatI ps).length c) ∧ w'.ownsRow w.heap.size 51 2 (.slice A (flatI ps).length c) (flatI ps).length (idsC (flatI ps)) ∧ Below w.heap.size w w' := by
  have Hp := Lib.hid hp
  clear hp
  have HG := Lib.hid (fun (n : Nat) W (h : n ≤ 4096) => growIds_any n W h)
  go_enter Try.func67, Try.ntmps67
  go_wp2_with fail
  go_loopw [3, 11] (fun s i wr => ∃ k : Nat, k ≤ ps.length ∧ i = .int .i64 k ∧ s = .int .i64 (flatI (ps.take k)).length ∧ w = wr) (fun _ i _ => ps.length - (intOf i).toNat)
  case atStart => exact ⟨0, Nat.zero_le _, rfl, rfl, rfl⟩
  case round =>
    obtain ⟨k, hk, rfl, rfl, rfl⟩ := hrel
    by_cases hlt : k < ps.length
    · obtain ⟨ad, rfl, _, hc⟩ := hl.at_ (k := k) (by simpa using hlt)
      rw [List.getElem_map] at hc
      unfold IdsP.v at hc
      have HT := Lib.hid (congrArg List.length (flatI_take hlt))
      rw [List.length_append] at HT
      have h2 := flatI_le ps (k + 1)
      have h3 := HT.out
      have hlt2 : (k : Int) < (ps.length : Int) := by omega
      have hnn : ¬ ((flatI (ps.take k)).length : Int) + (ps[k].l.length : Int) < 0 := by omega
      have hb1 : (flatI (ps.take k)).length ≤ 4096 := by omega
      have hb2 : ps[k].l.length ≤ 4096 := by omega
      clear h3 h2
      generalize (flatI (ps.take k)).length = a at *
      generalize ps[k].l.length = b at *
      go_wp2_with fail
      go_roundw
      case rel => exact ⟨k + 1, by omega, by go_num, by rw [HT.out]; go_num, by first | rfl | trivial⟩
      case measure => simp [intOf]; omega
    · obtain rfl : k = ps.length := by omega
      rw [List.take_length]
      have HG2 := Lib.hid (HG.out (flatI ps).length w hs)
      go_wp2_with fail
      refine HG2.out.mono ?_
      rintro e w2 ⟨A2, c2, rfl, hown2, hg2⟩
      go_wp2_with fail
      obtain ⟨w0, hw0⟩ : ∃ w0, w0 = w := ⟨_, rfl⟩
      subst hw0
      go_loopw [6, 27] (fun s i wr => ∃ (k : Nat) (A : Option Addr) (c : Nat), k ≤ ps.length ∧ i = .int .i64 k ∧ s = .slice A (flatI (ps.take k)).length c ∧ wr.ownsRow w0.heap.size 51 2 (.slice A (flatI (ps.take k)).length c) (flatI (ps.take k)).length (idsC (flatI (ps.take k))) ∧ Below w0.heap.size w0 wr) (fun _ i _ => ps.length - (intOf i).toNat)
      case atStart => exact ⟨0, A2, c2, Nat.zero_le _, rfl, rfl, hown2, hg2⟩
      case round =>
        obtain ⟨k, A, c, hk, rfl, rfl, hown, hb⟩ := hrel
        have hws := Below.size hb
        by_cases hlt : k < ps.length
        · obtain ⟨ad, rfl, _, hc⟩ := (hl.below hb hB).at_ (k := k) (by simpa using hlt)
          rw [List.getElem_map] at hc
          unfold IdsP.v at hc
          have hrk := (Hp.out _ (List.getElem_mem hlt)).below hb hB
          have HT := Lib.hid (flatI_take hlt)
          have h2 := flatI_le ps (k + 1)
          have h3 := congrArg List.length HT.out
          rw [List.length_append] at h3
          have hb1 : (flatI (ps.take k)).length ≤ 4096 := by omega
          have hb2 : (flatI (ps.take k)).length + ps[k].l.length ≤ 4096 := by omega
          clear h3 h2
          generalize ps[k] = p at *
          obtain ⟨pA, pc, pl⟩ := p
          simp only at hc hrk hb2 HT
          go_wp2_with (at_builtin; refine wpList_append_row rfl (.tmp 31) (.tmp 32) rfl w0.heap.size elem_id (by rfl) hown B (by rfl) (idsC_len pl) hrk (ones_ids pl) (by unfold maxLen; omega) (by omega) hws ?_; intro A8 c8 w8 hown9 hg8 _; have hb8 : Below w0.heap.size w0 w8 := Below.trans (B := w0.heap.size) hb ((Ch.of_own hg8).below hws (fun i hi => own_lt hown i hi)))
          go_roundw
          case rel => exact ⟨k + 1, A8, c8, by omega, by go_num, by rw [HT.out, List.length_append], by rw [HT.out, List.length_append, idsC_append]; exact hown9, hb8⟩
          case measure => simp [intOf]; omega
        · obtain rfl : k = ps.length := by omega
          rw [List.take_length] at hown ⊢
          go_wp2_with fail
          go_ret
          exact ⟨A, c, rfl, hown, hb⟩
theorem concat_two (L : Option Addr) (lc B : Nat) (A A2 : Option Addr) (cap cap2 : Nat) (l l2 : List IdZ) (w : World) (hl : Row w B L [.slice A l.length cap, .slice A2 l2.length cap2]) (h1 : Row w B A (idsC l)) (h2 : Row w B A2 (idsC l2)) (hB : B ≤ w.heap.size) (hs : l.length + l2.length ≤ 4096) :
    Calls Try.prog 67 #[.slice L 2 lc] w fun e w' => ∃ A c, e = .returned (.slice A (l.length + l2.length) c) ∧ w'.ownsRow w.heap.size 51 2 (.slice A (l.length + l2.length) c) (l.length + l2.length) (idsC (l ++ l2)) ∧ Below w.heap.size w w' := by
  have e : flatI [⟨A, cap, l⟩, ⟨A2, cap2, l2⟩] = l ++ l2 := by simp [flatI]
  have h := concatIds_any L lc B [⟨A, cap, l⟩, ⟨A2, cap2, l2⟩] w hl (fun p hp => by
    rcases List.mem_cons.1 hp with rfl | hp
    · exact h1
    · rw [List.mem_singleton] at hp; subst hp; exact h2) hB (by simp) (by rw [e, List.length_append]; exact hs)
  rw [e, List.length_append] at h
  exact h

/-- what Concat gives -/
def catE (n1 : Int) (l1 : List IdZ) (n2 : Int) (l2 : List IdZ) : Int := if chkM n1 l1 = 0 then (if chkM n2 l2 = 0 then (if 1024 < l1.length + l2.length then 251 else if 1048576 < n1 + n2 then 252 else 0) else chkM n2 l2) else chkM n1 l1
theorem cat_e1 {n1 n2 : Int} {l1 l2 : List IdZ} (h : ¬ chkM n1 l1 = 0) : catE n1 l1 n2 l2 = chkM n1 l1 ∧ chkM n1 l1 ≠ 0 := ⟨by unfold catE; rw [if_neg h], h⟩
theorem cat_e2 {n1 n2 : Int} {l1 l2 : List IdZ} (h1 : chkM n1 l1 = 0) (h : ¬ chkM n2 l2 = 0) : catE n1 l1 n2 l2 = chkM n2 l2 ∧ chkM n2 l2 ≠ 0 := ⟨by unfold catE; rw [if_pos h1, if_neg h], h⟩
theorem cat_e3 {n1 n2 : Int} {l1 l2 : List IdZ} (h1 : chkM n1 l1 = 0) (h2 : chkM n2 l2 = 0) (h : 1024 < l1.length + l2.length) : catE n1 l1 n2 l2 = 251 ∧ (251 : Int) ≠ 0 := ⟨by unfold catE; rw [if_pos h1, if_pos h2, if_pos h], by decide⟩
theorem cat_e4 {n1 n2 : Int} {l1 l2 : List IdZ} (h1 : chkM n1 l1 = 0) (h2 : chkM n2 l2 = 0) (h : ¬ 1024 < l1.length + l2.length) (hs : 1048576 < n1 + n2) : catE n1 l1 n2 l2 = 252 ∧ (252 : Int) ≠ 0 := ⟨by unfold catE; rw [if_pos h1, if_pos h2, if_neg h, if_pos hs], by decide⟩
theorem cat_bd {n1 n2 : Int} {l1 l2 : List IdZ} (h1 : chkM n1 l1 = 0) (h2 : chkM n2 l2 = 0) : (0 ≤ n1 ∧ n1 ≤ 1048576 ∧ l1.length ≤ 1024) ∧ (0 ≤ n2 ∧ n2 ≤ 1048576 ∧ l2.length ≤ 1024) := by
  obtain ⟨a1, a2, a3, a4⟩ := chkM_zero h1
  obtain ⟨b1, b2, b3, b4⟩ := chkM_zero h2
  have c1 := (sumN_bd _ a2).1
  have c2 := (sumN_bd _ b2).1
  omega
theorem cat_ok {n1 n2 : Int} {l1 l2 : List IdZ} (h1 : chkM n1 l1 = 0) (h2 : chkM n2 l2 = 0) (h : ¬ 1024 < l1.length + l2.length) (hs : ¬ 1048576 < n1 + n2) : catE n1 l1 n2 l2 = 0 ∧ (l1 ++ l2).length = l1.length + l2.length ∧ chkM (n1 + n2) (l1 ++ l2) = 0 := by
  obtain ⟨a1, a2, a3, a4⟩ := chkM_zero h1
  obtain ⟨b1, b2, b3, b4⟩ := chkM_zero h2
  have e : sumN (l1 ++ l2) = sumN l1 + sumN l2 := by unfold sumN; rw [List.map_append, List.sum_append]
  refine ⟨by unfold catE; rw [if_pos h1, if_pos h2, if_neg h, if_neg hs], List.length_append, ?_⟩
  exact (chkM_ok (by rw [List.length_append]; omega) (by rw [List.all_append, a2, b2]; rfl) (by omega) (by omega)).symm
def CatRes (n1 : Int) (l1 : List IdZ) (n2 : Int) (l2 : List IdZ) (w : World) (e : Ending) (w' : World) : Prop := Below w.heap.size w w' ∧ (if catE n1 l1 n2 l2 = 0 then ∃ A c, e = .returned (.tuple #[.agg #[.int .i64 (n1 + n2), .slice A (l1.length + l2.length) c], .int .i64 0]) ∧
  w'.ownsRow w.heap.size 51 2 (.slice A (l1.length + l2.length) c) (l1.length + l2.length) (idsC (l1 ++ l2)) ∧ chkM (n1 + n2) (l1 ++ l2) = 0 else e = .returned (.tuple #[.agg #[.int .i64 0, .slice none 0 0], .int .i64 (catE n1 l1 n2 l2)]))
theorem catRes_err {n1 n2 : Int} {l1 l2 : List IdZ} {w w' : World} {er : Int} (h : catE n1 l1 n2 l2 = er) (hne : er ≠ 0) (hb : Below w.heap.size w w') : CatRes n1 l1 n2 l2 w (.returned (.tuple #[.agg #[.int .i64 0, .slice none 0 0], .int .i64 er])) w' := by
  refine ⟨hb, ?_⟩
  rw [h, if_neg hne]
theorem catRes_ok {n1 n2 : Int} {l1 l2 : List IdZ} {w w' : World} {A : Option Addr} {c gc : Nat} (h : catE n1 l1 n2 l2 = 0) (_ : (l1 ++ l2).length = l1.length + l2.length) (hk : chkM (n1 + n2) (l1 ++ l2) = 0) (ho : w'.ownsRow gc 51 2 (.slice A (l1.length + l2.length) c) (l1.length + l2.length) (idsC (l1 ++ l2))) (hb : Below w.heap.size w w') (hg : w.heap.size = gc) :
    CatRes n1 l1 n2 l2 w (.returned (.tuple #[.agg #[.int .i64 (n1 + n2), .slice A (l1.length + l2.length) c], .int .i64 0])) w' := by
  subst hg
  refine ⟨hb, ?_⟩
  rw [if_pos h]
  exact ⟨A, c, rfl, ho, hk⟩
theorem cat_below {w w1 w2 : World} {gc : Nat} (h : Grew w w1) (hg : w.heap.size = gc) (k : Ch (At (gc + 2)) w1 w2) : Below w.heap.size w w2 := Below.trans (B := w.heap.size) h (k.below h.size (fun i hi => by have h' : i = gc + 2 := hi; omega))

set_option maxRecDepth 100000 in
set_option maxHeartbeats 4000000 in
theorem concat25_any (n1 : Int) (A1 : Option Addr) (c1 : Nat) (l1 : List IdZ) (n2 : Int) (A2 : Option Addr) (c2 B : Nat) (l2 : List IdZ) (w : World) (h1 : Row w B A1 (idsC l1)) (h2 : Row w B A2 (idsC l2)) (hBw : B ≤ w.heap.size) (hm1 : l1.length ≤ 9223372036854775807) (hm2 : l2.length ≤ 9223372036854775807) :
    Calls Try.prog 46 #[.agg #[.int .i64 n1, .slice A1 l1.length c1], .agg #[.int .i64 n2, .slice A2 l2.length c2]] w (CatRes n1 l1 n2 l2 w) := by
  have gA := grew_alloc w (.cells #[.int .i64 n1, .slice A1 l1.length c1] 31)
  have hA := Blk.new w 31 #[.int .i64 n1, .slice A1 l1.length c1]
  have z1 : (w.alloc (.cells #[.int .i64 n1, .slice A1 l1.length c1] 31)).heap.size = w.heap.size + 1 := by simp
  generalize hw0 : w.alloc (.cells #[.int .i64 n1, .slice A1 l1.length c1] 31) = w0 at gA hA z1
  have gB := grew_alloc w0 (.cells #[.int .i64 n2, .slice A2 l2.length c2] 31)
  have hB := Blk.new w0 31 #[.int .i64 n2, .slice A2 l2.length c2]
  have z2 : (w0.alloc (.cells #[.int .i64 n2, .slice A2 l2.length c2] 31)).heap.size = w.heap.size + 2 := by simp [z1]
  rw [z1] at hB
  generalize hw1 : w0.alloc (.cells #[.int .i64 n2, .slice A2 l2.length c2] 31) = w1 at gB hB z2
  have gC := grew_alloc w1 (.cells #[.int .i64 0, .slice none 0 0] 31)
  have hR := Blk.new w1 31 #[.int .i64 0, .slice none 0 0]
  rw [z2] at hR
  replace hA := (hA.of gB).of gC
  replace hB := hB.of gC
  have gAll := (gA.trans gB).trans gC
  have z3 : (w1.alloc (.cells #[.int .i64 0, .slice none 0 0] 31)).heap.size = w.heap.size + 3 := by simp [z2]
  have hr1 := h1.below gAll hBw
  have hr2 := h2.below gAll hBw
  have hB1 := Nat.le_trans hBw gAll.size
  subst hw1
  subst hw0
  clear gA gB gC z1 z2 h1 h2
  have a0 := (hA.cell 0).trans (show _ = some (.int .i64 n1) from rfl)
  have a1 := (hA.cell 1).trans (show _ = some (.slice A1 l1.length c1) from rfl)
  go_enter Try.func46, Try.ntmps46
  go_upto_region 1 with (fail)
  generalize ((w.alloc (.cells #[.int .i64 n1, .slice A1 l1.length c1] 31)).alloc (.cells #[.int .i64 n2, .slice A2 l2.length c2] 31)).alloc (.cells #[.int .i64 0, .slice none 0 0] 31) = w2 at *
  generalize hgc : w.heap.size = gc at *
  have HGc := Lib.hid hgc
  clear hgc
  go_wp2_with fail
  refine (check25_any n1 A1 c1 B l1 w2 hr1 hB1 hm1).mono ?_
  rintro e w3 ⟨rfl, hb⟩
  replace hA := hA.of hb
  replace hB := hB.of hb
  replace hR := hR.of hb
  replace hr1 := hr1.up hb hB1
  replace hr2 := hr2.up hb hB1
  replace hB1 := Nat.le_trans hB1 hb.size
  replace gAll := Grew.trans gAll hb
  clear hb
  clear a0 a1
  by_cases e1 : chkM n1 l1 = 0
  rotate_left
  · have hne : (chkM n1 l1 != 0) = true := by rw [bne_iff_ne]; exact e1
    have HW := Lib.hid (cat_e1 (n2 := n2) (l2 := l2) e1)
    clear e1
    generalize chkM n1 l1 = er at *
    have r0 := (hR.cell 0).trans (show _ = some (.int .i64 0) from rfl)
    have r1 := (hR.cell 1).trans (show _ = some (.slice none 0 0) from rfl)
    have f0 := hR.frozen 0
    have f1 := hR.frozen 1
    have hrl := hR.lt
    go_wp2_with fail
    have hk4 := ((Ch.refl (At (gc + 2)) w3).set_at 0 (.int .i64 0)).set_at 1 (.slice none 0 0)
    have HE := Lib.hid (HW.out)
    refine bodyPost_ret (v := .tuple #[.agg #[.int .i64 0, .slice none 0 0], .int .i64 er]) ?_ rfl (catRes_err HE.out.1 HE.out.2 (cat_below gAll HGc.out hk4))
    simp [results, Try.results46, go_sem, r0, r1]
  have E1 := Lib.hid e1
  rw [e1]
  clear e1
  have b0 := (hB.cell 0).trans (show _ = some (.int .i64 n2) from rfl)
  have b1 := (hB.cell 1).trans (show _ = some (.slice A2 l2.length c2) from rfl)
  go_wp2_with fail
  refine (check25_any n2 A2 c2 B l2 w3 hr2 hB1 hm2).mono ?_
  rintro e w4 ⟨rfl, hb⟩
  replace hA := hA.of hb
  replace hB := hB.of hb
  replace hR := hR.of hb
  replace hr1 := hr1.up hb hB1
  replace hr2 := hr2.up hb hB1
  replace hB1 := Nat.le_trans hB1 hb.size
  replace gAll := Grew.trans gAll hb
  clear hb
  clear b0 b1
  by_cases e2 : chkM n2 l2 = 0
  rotate_left
  · have hne : (chkM n2 l2 != 0) = true := by rw [bne_iff_ne]; exact e2
    have HW := Lib.hid (cat_e2 E1.out e2)
    clear e2
    generalize chkM n2 l2 = er at *
    have r0 := (hR.cell 0).trans (show _ = some (.int .i64 0) from rfl)
    have r1 := (hR.cell 1).trans (show _ = some (.slice none 0 0) from rfl)
    have f0 := hR.frozen 0
    have f1 := hR.frozen 1
    have hrl := hR.lt
    go_wp2_with fail
    have hk4 := ((Ch.refl (At (gc + 2)) w4).set_at 0 (.int .i64 0)).set_at 1 (.slice none 0 0)
    have HE := Lib.hid (HW.out)
    refine bodyPost_ret (v := .tuple #[.agg #[.int .i64 0, .slice none 0 0], .int .i64 er]) ?_ rfl (catRes_err HE.out.1 HE.out.2 (cat_below gAll HGc.out hk4))
    simp [results, Try.results46, go_sem, r0, r1]
  have E2 := Lib.hid e2
  rw [e2]
  clear e2
  obtain ⟨q1, q2⟩ := cat_bd E1.out E2.out
  have a0 := (hA.cell 0).trans (show _ = some (.int .i64 n1) from rfl)
  have a1 := (hA.cell 1).trans (show _ = some (.slice A1 l1.length c1) from rfl)
  have b0 := (hB.cell 0).trans (show _ = some (.int .i64 n2) from rfl)
  have b1 := (hB.cell 1).trans (show _ = some (.slice A2 l2.length c2) from rfl)
  by_cases hc : 1024 < l1.length + l2.length
  · have hcI : (1024 : Int) < (l1.length : Int) + (l2.length : Int) := by omega
    have HW := Lib.hid (cat_e3 E1.out E2.out hc)
    have r0 := (hR.cell 0).trans (show _ = some (.int .i64 0) from rfl)
    have r1 := (hR.cell 1).trans (show _ = some (.slice none 0 0) from rfl)
    have f0 := hR.frozen 0
    have f1 := hR.frozen 1
    have hrl := hR.lt
    go_wp2_with fail
    have hk4 := ((Ch.refl (At (gc + 2)) w4).set_at 0 (.int .i64 0)).set_at 1 (.slice none 0 0)
    have HE := Lib.hid (HW.out)
    refine bodyPost_ret (v := .tuple #[.agg #[.int .i64 0, .slice none 0 0], .int .i64 251]) ?_ rfl (catRes_err HE.out.1 HE.out.2 (cat_below gAll HGc.out hk4))
    simp [results, Try.results46, go_sem, r0, r1]
  have hcI : ¬ (1024 : Int) < (l1.length : Int) + (l2.length : Int) := by omega
  by_cases hs : 1048576 < n1 + n2
  · have HW := Lib.hid (cat_e4 E1.out E2.out hc hs)
    have r0 := (hR.cell 0).trans (show _ = some (.int .i64 0) from rfl)
    have r1 := (hR.cell 1).trans (show _ = some (.slice none 0 0) from rfl)
    have f0 := hR.frozen 0
    have f1 := hR.frozen 1
    have hrl := hR.lt
    go_wp2_with fail
    have hk4 := ((Ch.refl (At (gc + 2)) w4).set_at 0 (.int .i64 0)).set_at 1 (.slice none 0 0)
    have HE := Lib.hid (HW.out)
    refine bodyPost_ret (v := .tuple #[.agg #[.int .i64 0, .slice none 0 0], .int .i64 252]) ?_ rfl (catRes_err HE.out.1 HE.out.2 (cat_below gAll HGc.out hk4))
    simp [results, Try.results46, go_sem, r0, r1]
  have HW := Lib.hid (cat_ok E1.out E2.out hc hs)
  have hw4 := gAll.size
  have hRl4 := hR.lt
  go_upto_region 11 with (fail)
  refine wp_region_g 12 (by kernel_rfl) ?_
  refine AllC.head 0 9 (fuel := 5) (by first | exact fun h k => Grew.trans h k | exact fun h k => cls_grew h k) (grew_drew _) (by rfl) (by kernel_rfl) ?_
  simp only [List.take_succ_cons, List.take_zero, List.drop_succ_cons, List.drop_zero]
  repeat (first
    | (refine HeadC.val (by rfl) ?_
       apply Exists.intro
       refine ⟨fun w' hw' => ?_, ?_⟩
       · (have hf_0 := cell_up hw' a0; have hf_1 := cell_up hw' a1; have hf_2 := cell_up hw' b0; have hf_3 := cell_up hw' b1; (go_simp) <;> (try go_ints) <;> with_reducible rfl)
       try simp only [Act.put, List.setIfInBounds_toArray, List.set_cons_zero, List.set_cons_succ])
    | (refine HeadC.shut (by rfl) ?_
       try simp only [Act.put, List.setIfInBounds_toArray, List.set_cons_zero, List.set_cons_succ]))
  refine HeadC.nil ?_
  refine AllC.one 9 (by kernel_rfl) rfl ?_
  intro wg hg K hK
  go_simp
  have hl := row_new (w := wg) (t := 29) (cs := #[.slice A1 l1.length c1, .slice A2 l2.length c2]) (B := (wg.alloc (.cells #[.slice A1 l1.length c1, .slice A2 l2.length c2] 29)).heap.size) (by simp)
  have hga : Grew w4 (wg.alloc (.cells #[.slice A1 l1.length c1, .slice A2 l2.length c2] 29)) := ((grew_drew _).trans hg).trans (grew_alloc _ _)
  refine hK.out _ _ hga ?_
  clear hK K hg
  try simp only [Act.put, List.setIfInBounds_toArray, List.set_cons_zero, List.set_cons_succ]
  generalize wg.alloc (.cells #[.slice A1 l1.length c1, .slice A2 l2.length c2] 29) = wa at *
  generalize wg.heap.size = gl at *
  clear wg
  refine AllC.one 10 (by kernel_rfl) rfl ?_
  intro wg hg K hK
  go_simp
  have HJ := concat_two (some ⟨gl, 0, none⟩) 2 wg.heap.size A1 A2 c1 c2 l1 l2 wg ((hl.up hg (Nat.le_refl _)).more hg.size) ((hr1.up (hga.trans hg) hB1).more (Nat.le_trans hB1 (hga.trans hg).size)) ((hr2.up (hga.trans hg) hB1).more (Nat.le_trans hB1 (hga.trans hg).size)) (Nat.le_refl _) (by omega)
  refine HJ.mono ?_
  clear HJ
  rintro e wj ⟨Aj, cj, rfl, hownj, hb⟩
  have hgj : Grew w4 wj := (hga.trans hg).trans hb
  have hwg := (hga.trans hg).size
  refine hK.out _ _ hgj ?_
  clear hK K hg hb hga hl
  try simp only [Act.put, List.setIfInBounds_toArray, List.set_cons_zero, List.set_cons_succ]
  refine AllC.head 11 1 (fuel := 2) (by first | exact fun h k => Grew.trans h k | exact fun h k => cls_grew h k) (hgj) (by rfl) (by kernel_rfl) ?_
  simp only [List.take_succ_cons, List.take_zero, List.drop_succ_cons, List.drop_zero]
  repeat (first
    | (refine HeadC.val (by rfl) ?_
       apply Exists.intro
       refine ⟨fun w' hw' => ?_, ?_⟩
       · ((go_simp) <;> (try go_ints) <;> with_reducible rfl)
       try simp only [Act.put, List.setIfInBounds_toArray, List.set_cons_zero, List.set_cons_succ])
    | (refine HeadC.shut (by rfl) ?_
       try simp only [Act.put, List.setIfInBounds_toArray, List.set_cons_zero, List.set_cons_succ]))
  refine HeadC.nil ?_
  refine AllC.tail 12 (by rfl) (by kernel_rfl) ?_
  intro wt hwt
  simp only [List.drop_succ_cons, List.drop_zero]
  have hgt := hgj.trans hwt
  replace hR := hR.of hgt
  replace hownj := own_below hownj hwt
  have gT := Grew.trans gAll hgt
  have r0 := (hR.cell 0).trans (show _ = some (.int .i64 0) from rfl)
  have r1 := (hR.cell 1).trans (show _ = some (.slice none 0 0) from rfl)
  have f0 := hR.frozen 0
  have f1 := hR.frozen 1
  have hrl := hR.lt
  clear hgj hwt hgt a0 a1 b0 b1
  go_wp2_with fail
  have hk4 := ((Ch.refl (At (gc + 2)) wt).set_at 0 (.int .i64 (n1 + n2))).set_at 1 (.slice Aj (l1.length + l2.length) cj)
  have hown4 := own_ch hownj hk4 (fun i hi h => by have := own_lt hownj i hi; have h' : i = gc + 2 := h; omega)
  refine bodyPost_ret (v := .tuple #[.agg #[.int .i64 (n1 + n2), .slice Aj (l1.length + l2.length) cj], .int .i64 0]) ?_ rfl (catRes_ok HW.out.1 HW.out.2.1 HW.out.2.2 (own_mono hown4 (by have := HGc.out; omega)) (cat_below gT HGc.out hk4) HGc.out)
  simp [results, Try.results46, go_sem, r0, r1]

end Go.Proofs.Ytnjhipnfhapngaa
