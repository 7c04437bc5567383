/-
  ref01.Uint, ref25.Encode.
-/
import Derived.Test.YtnjhipnfhapngaaForm25c
import Derived.Test.YtnjhipnfhapngaaForm25d
namespace Go.Proofs.Ytnjhipnfhapngaa
section
set_option linter.unusedVariables false
set_option linter.unusedSimpArgs false
set_option linter.unnecessarySimpa false
open Go.RowKit
attribute [local go_sem ↓] Go.wp_at_zero Go.wp_at_succ

def LebOut (l : List Int) (w : World) (e : Ending) (w' : World) : Prop := ∃ (A : Option Addr) (cap : Nat), e = .returned (.slice A l.length cap) ∧ w'.ownsRow w.heap.size 5 1 (.slice A l.length cap) l.length (l.map (.int .u8)) ∧ Below w.heap.size w w'
set_option maxHeartbeats 1000000 in
theorem refUint_rec (f : Nat) : ∀ (v : Nat) (w : World), f ≤ 9 → v < 18446744073709551616 → v < 128 ^ (f + 1) →
    Calls Try.prog 60 #[.int .u64 v] w (LebOut (leb (f + 1) v) w) := by
  induction f with
  | zero =>
    intro v w hf hv hp
    have hlt : (v : Int) < 128 := by omega
    have hw8 : IntKind.u8.wrap (v : Int) = v := Go.IntWalk.u8_in _ (by omega)
    have hL := Lib.hid (leb_small (f := 0 + 1) (m := v) (by omega) (by omega))
    have hown := own_lit w w.heap.size 5 #[.int .u8 v] (Nat.le_refl _) (by unfold maxLen; simp)
    have hga := grew_alloc w (.cells #[.int .u8 v] 5)
    go_enter Try.func60, Try.ntmps60
    go_wp2_with fail
    go_ret
    unfold LebOut
    rw [hL.out]
    exact ⟨_, 1, rfl, hown, hga⟩
  | succ f ih =>
    intro v w hf hv hp
    by_cases hlt : v < 128
    · have hltI : (v : Int) < 128 := by omega
      have hw8 : IntKind.u8.wrap (v : Int) = v := Go.IntWalk.u8_in _ (by omega)
      have hL := Lib.hid (leb_small (f := f + 1 + 1) (m := v) (by omega) (by omega))
      have hown := own_lit w w.heap.size 5 #[.int .u8 v] (Nat.le_refl _) (by unfold maxLen; simp)
      have hga := grew_alloc w (.cells #[.int .u8 v] 5)
      go_enter Try.func60, Try.ntmps60
      go_wp2_with fail
      go_ret
      unfold LebOut
      rw [hL.out]
      exact ⟨_, 1, rfl, hown, hga⟩
    · have hltI : ¬ (v : Int) < 128 := by omega
      have hL := Lib.hid (leb_big (f := f + 1 + 1) (m := v) (by omega) (by omega))
      have hp2 : v / 128 < 128 ^ (f + 1) := Nat.div_lt_of_lt_mul (by rw [Nat.mul_comm, ← Nat.pow_succ]; exact hp)
      have HIH := Lib.hid (fun W => ih (v / 128) W (by omega) (by omega) hp2)
      have hlb := Lib.hid (leb_len (f + 1) (v / 128))
      have hdv : (v : Int) / 128 = ((v / 128 : Nat) : Int) := by omega
      have hmv : (v : Int) % 128 = ((v % 128 : Nat) : Int) := by omega
      have hm : v % 128 < 128 := Nat.mod_lt _ (by omega)
      rw [show f + 1 + 1 - 1 = f + 1 from rfl] at hL
      clear ih hp2
      generalize v / 128 = q at *
      generalize v % 128 = r at *
      have hw8 : IntKind.u8.wrap (r : Int) = r := Go.IntWalk.u8_in _ (by omega)
      have hw9 : IntKind.u8.wrap ((r : Int) + 128) = ((128 + r : Nat) : Int) := by rw [Go.IntWalk.u8_in _ (by omega)]; omega
      generalize hr1 : 128 + r = r1 at *
      clear hr1
      have hown : (w.alloc (.cells #[.int .u8 (r1 : Int)] 5)).ownsRow w.heap.size 5 1 (.slice (some ⟨w.heap.size, 0, none⟩) 1 1) 1 [.int .u8 (r1 : Int)] := own_lit w w.heap.size 5 #[.int .u8 (r1 : Int)] (Nat.le_refl _) (by unfold maxLen; simp)
      have hga := grew_alloc w (.cells #[.int .u8 (r1 : Int)] 5)
      go_enter Try.func60, Try.ntmps60
      go_wp2_with fail
      refine (HIH.out _).mono ?_
      rintro e w2 ⟨A, cap, rfl, hown2, hb⟩
      have hl := hlb.out
      generalize leb (f + 1) q = lb at *
      have hown1 := own_below hown hb
      have hrow2 := own_row hown2
      have hs2 := hb.size
      have hs1 := hga.size
      clear hlb HIH
      go_wp2_with (at_builtin; refine wpList_append_row rfl (.tmp 12) (.tmp 15) rfl w.heap.size elem_u8 (by rfl) hown1 _ (by rfl) (by simp) hrow2 (ones_u8 lb) (by unfold maxLen; omega) (by omega) (by omega) ?_; intro A3 c3 w3 hown3 hg3 hwh3)
      go_ret
      unfold LebOut
      rw [hL.out]
      refine ⟨A3, c3, ?_, ?_, ?_⟩
      · rw [List.length_cons, Nat.add_comm]; rfl
      · rw [List.length_cons, List.map_cons, Nat.add_comm]; exact hown3
      · exact Below.trans (B := w.heap.size) (Grew.trans hga hb) (below_grown hg3 (by omega) (own_lt hown1))
theorem refUint_any (v : Nat) (w : World) (hv : v < 18446744073709551616) : Calls Try.prog 60 #[.int .u64 v] w (LebOut (lebN v) w) :=
  refUint_rec 9 v w (Nat.le_refl _) hv (Nat.lt_of_lt_of_le hv (by decide))
theorem lebs_step {n len : Nat} {ids : List IdZ} {k : Nat} (h : k < ids.length) : lebs (numsN n len (ids.take (k + 1))) = lebs (numsN n len (ids.take k)) ++ lebN ids[k].2.toNat ++ lebN ids[k].1.toNat := by
  rw [numsN_take h]; unfold lebs idN; simp
theorem lebs_zero (n len : Nat) : lebs (numsN n len []) = lebN n ++ lebN len := by unfold lebs numsN; simp
set_option maxRecDepth 100000 in
set_option maxHeartbeats 2000000 in
theorem refEncode25_any (n : Int) (A : Option Addr) (cap B : Nat) (ids : List IdZ) (w : World) (hr : Row w B A (idsC ids)) (hw : ∀ x ∈ ids, WfI x) (hB : B ≤ w.heap.size) (hm : ids.length ≤ 9223372036854775807) :
    Calls Try.prog 37 #[.agg #[.int .i64 n, .slice A ids.length cap]] w (EncRes n ids w) := by
  have g0 := grew_alloc w (.cells #[.int .i64 n, .slice A ids.length cap] 31)
  have hC := Blk.new w 31 #[.int .i64 n, .slice A ids.length cap]
  have c0 := (hC.cell 0).trans (show _ = some (.int .i64 n) from rfl)
  have c1 := (hC.cell 1).trans (show _ = some (.slice A ids.length cap) from rfl)
  have hr0 := hr.below g0 hB
  have hB0 := Nat.le_trans hB g0.size
  have HC := Lib.hid (refCheck25_any n A cap B ids _ hr0 hB0 hm)
  have Hw := Lib.hid hw
  clear hw
  go_enter Try.func37, Try.ntmps37
  go_wp2_with fail
  generalize w.alloc (.cells #[.int .i64 n, .slice A ids.length cap] 31) = w1 at *
  generalize hgc : w.heap.size = gc at *
  have HGc := Lib.hid hgc
  clear hgc
  refine HC.out.mono ?_
  rintro e w2 ⟨rfl, hb⟩
  replace hC := hC.of hb
  replace hr0 := hr0.below hb hB0
  replace hB0 := Nat.le_trans hB0 hb.size
  replace g0 : Below gc w w2 := by have h : Below w.heap.size w w2 := Grew.trans g0 hb; rw [HGc.out] at h; exact h
  clear hb HC c0 c1
  have c0 := (hC.cell 0).trans (show _ = some (.int .i64 n) from rfl)
  have c1 := (hC.cell 1).trans (show _ = some (.slice A ids.length cap) from rfl)
  by_cases he : chkM n ids = 0
  · obtain ⟨q1, q2, q3, q4⟩ := chkM_zero he
    have hn0 := (sumN_bd ids q2).1
    obtain ⟨N, rfl⟩ : ∃ N : Nat, n = (N : Int) := ⟨n.toNat, by omega⟩
    have hN : N ≤ 1048576 := by omega
    have HEB := Lib.hid (show encB (N : Int) ids = lebs (numsN N ids.length ids) by unfold encB; rw [if_pos he]; simp)
    have HE := Lib.hid he
    have HA := Lib.hid q2
    rw [he]
    clear he q2 q3 hn0
    have hgc2 : gc ≤ w2.heap.size := by have := hC.lt; omega
    go_wp2_with fail
    refine wp_region_g 10 (by kernel_rfl) ?_
    refine AllC.head 0 3 (fuel := 8) (by first | exact fun h k => Grew.trans h k | exact fun h k => cls_grew h k) (grew_drew _) (by rfl) (by kernel_rfl) ?_
    simp only [List.take_succ_cons, List.take_zero, List.drop_succ_cons, List.drop_zero]
    repeat (first
      | (refine HeadC.val (by rfl) ?_
         apply Exists.intro
         refine ⟨fun w' hw' => ?_, ?_⟩
         · (have hf_0 := cell_up hw' c0; have hf_1 := cell_up hw' c1; (go_simp) <;> (try go_ints) <;> with_reducible rfl)
         try simp only [Act.put, List.setIfInBounds_toArray, List.set_cons_zero, List.set_cons_succ])
      | (refine HeadC.shut (by rfl) ?_
         try simp only [Act.put, List.setIfInBounds_toArray, List.set_cons_zero, List.set_cons_succ]))
    refine HeadC.nil ?_
    refine AllC.head 4 4 (fuel := 4) (by first | exact fun h k => Grew.trans h k | exact fun h k => cls_grew h k) (grew_drew _) (by rfl) (by kernel_rfl) ?_
    simp only [List.take_succ_cons, List.take_zero, List.drop_succ_cons, List.drop_zero]
    repeat (first
      | (refine HeadC.val (by rfl) ?_
         apply Exists.intro
         refine ⟨fun w' hw' => ?_, ?_⟩
         · (have hf_0 := cell_up hw' c0; have hf_1 := cell_up hw' c1; (go_simp) <;> (try go_ints) <;> with_reducible rfl)
         try simp only [Act.put, List.setIfInBounds_toArray, List.set_cons_zero, List.set_cons_succ])
      | (refine HeadC.shut (by rfl) ?_
         try simp only [Act.put, List.setIfInBounds_toArray, List.set_cons_zero, List.set_cons_succ]))
    refine HeadC.nil ?_
    refine AllC.one 3 (by kernel_rfl) rfl ?_
    intro wg hg K hK
    go_simp
    have hg3 : Grew w2 wg := (grew_drew _).trans hg
    refine (refUint_any N wg (by omega)).mono ?_
    rintro e w3 ⟨A3, cap3, rfl, hown3, hb3⟩
    have hl3 := leb_len 10 N
    replace hg3 := hg3.trans hb3
    replace hown3 := own_mono hown3 (base' := w2.heap.size) (by have := hg.size; simpa using this)
    refine hK.out _ _ hg3 ?_
    clear hK K hg hb3 wg
    try simp only [Act.put, List.setIfInBounds_toArray, List.set_cons_zero, List.set_cons_succ]
    refine AllC.one 8 (by kernel_rfl) rfl ?_
    intro wg hg K hK
    go_simp
    replace hg3 := hg3.trans hg
    replace hown3 := own_below hown3 hg
    refine (refUint_any ids.length wg (by omega)).mono ?_
    rintro e w4 ⟨A4, cap4, rfl, hown4, hb4⟩
    have hl4 := leb_len 10 ids.length
    replace hg3 := hg3.trans hb4
    replace hown3 := own_below hown3 hb4
    replace hown4 := own_mono hown4 (base' := 0) (Nat.zero_le _)
    refine hK.out _ _ hg3 ?_
    clear hK K hg hb4 wg
    try simp only [Act.put, List.setIfInBounds_toArray, List.set_cons_zero, List.set_cons_succ]
    refine AllC.one 9 (by kernel_rfl) rfl ?_
    intro wg hg K hK
    replace hg3 := hg3.trans hg
    replace hown3 := own_below hown3 hg
    replace hown4 := own_below hown4 hg
    have hz0 := Lib.hid (lebs_zero N ids.length)
    have hln : Hid ((lebN N ++ lebN ids.length).length = (lebN N).length + (lebN ids.length).length) := Lib.hid List.length_append
    unfold lebN at hown3 hown4 hz0 hln
    unfold lebN
    generalize leb 10 N = l1 at *
    generalize leb 10 ids.length = l2 at *
    refine step_append_row rfl (.tmp 15) (.tmp 20) rfl w2.heap.size elem_u8 (by rfl) hown3 _ (by rfl) (by simp) (own_row hown4) (ones_u8 l2) (by unfold maxLen; omega) (by omega) hg3.size ?_
    intro A5 c5 w5 hown5 hg5 hwh
    have hg6 : Grew w2 w5 := Below.trans (B := w2.heap.size) hg3 (below_grown hg5 hg3.size (own_lt hown3))
    refine hK.out _ _ hg6 ?_
    clear hK K hg hg5 hwh hown3 hown4 hg3
    try simp only [Act.put, List.setIfInBounds_toArray, List.set_cons_zero, List.set_cons_succ]
    refine AllC.tail 10 (by rfl) (by kernel_rfl) ?_
    intro wt hwt
    simp only [List.drop_succ_cons, List.drop_zero]
    replace hg6 := hg6.trans hwt
    replace hown5 := own_below hown5 hwt
    rw [← List.map_append] at hown5
    rw [← hln.out] at hown5 ⊢
    have hl5 : (l1 ++ l2).length ≤ 20 := by rw [hln.out]; omega
    have HZ : Hid (l1 ++ l2 = lebs (numsN N ids.length (ids.take 0))) := Lib.hid (by rw [hz0.out.symm]; rfl)
    generalize l1 ++ l2 = out0 at *
    clear hwt hl3 hl4 hln hz0 w3 w4 w5 c0
    have hT2 : gc < w2.heap.size := hC.lt
    have hB2 := hB0
    replace hC := hC.of hg6
    replace hr0 := hr0.up hg6 hB0
    replace hB0 := Nat.le_trans hB0 hg6.size
    replace c1 := cell_up hg6 c1
    have hgT : gc ≤ wt.heap.size := by have := hg6.size; omega
    have gT : Below gc w wt := Below.trans (B := gc) g0 (hg6.mono hgc2)
    clear g0
    go_wp2_with fail
    go_loopw [5, 6] (fun v i wr => ∃ (k : Nat) (out : List Int) (Ao : Option Addr) (co : Nat), k ≤ ids.length ∧ i = .int .i64 k ∧ v = .slice Ao out.length co ∧ Hid (out = lebs (numsN N ids.length (ids.take k))) ∧ out.length ≤ 20 + 20 * k ∧ wr.ownsRow w2.heap.size 5 1 (.slice Ao out.length co) out.length (out.map (.int .u8)) ∧ Below w2.heap.size wt wr) (fun _ i _ => ids.length - (intOf i).toNat)
    case atStart => exact ⟨0, out0, A5, c5, Nat.zero_le _, rfl, rfl, HZ, by omega, hown5, Below.refl _ _⟩
    case round =>
      clear hown5 HZ
      obtain ⟨k, out, Ao, co, hk, rfl, rfl, HO, hlo, hown, hb⟩ := hrel
      have hbs := hb.size
      have hs6 := hg6.size
      have hCr : Blk wr gc 31 #[.int .i64 (N : Int), .slice A ids.length cap] := by unfold Blk at hC ⊢; rw [hb.block gc hT2]; exact hC
      have c1r := (hCr.cell 1).trans (show _ = some (.slice A ids.length cap) from rfl)
      have hrr := hr0.below hb hB2
      by_cases hlt : k < ids.length
      · obtain ⟨ad, rfl, hbl, d0, d1⟩ := ids_at hrr hlt
        obtain ⟨s, m, hx, hs, hmx⟩ := wfI_nat (Hw.out _ (List.getElem_mem hlt)) (List.all_eq_true.1 HA.out _ (List.getElem_mem hlt))
        have hst := lebs_step (n := N) (len := ids.length) hlt
        rw [hx] at d0 d1 hst
        simp only [Int.toNat_natCast] at d0 d1 hst
        have HST := Lib.hid hst
        clear hst hx
        have hmI : (m : Int) ≤ 8192 := by omega
        have hl3 := leb_len 10 m
        have hl4 := leb_len 10 s
        have HU1 := Lib.hid (refUint_any m wr (by omega))
        have HU2 := Lib.hid (fun W => refUint_any s W hs)
        go_wp2_with fail
        refine HU1.out.mono ?_
        rintro e w3 ⟨A6, c6, rfl, hown6, hb6⟩
        clear HU1
        unfold lebN at hown6 HST HU2 ⊢
        generalize leb 10 m = l1 at *
        generalize leb 10 s = l2 at *
        have hown7 := own_below hown hb6
        have hb7 : Below w2.heap.size wt w3 := Below.trans (B := w2.heap.size) hb (hb6.mono (by omega))
        have hC3 : Blk w3 gc 31 #[.int .i64 (N : Int), .slice (some ad) ids.length cap] := hCr.of hb6
        replace d0 := cell_up hb6 d0
        have hs3 := hb6.size
        have c13 := (hC3.cell 1).trans (show _ = some (.slice (some ad) ids.length cap) from rfl)
        clear hown hb hCr c1r hrr d1
        go_wp2_with (at_builtin; refine wpList_append_row rfl (.tmp 29) (.tmp 37) rfl w2.heap.size elem_u8 (by rfl) hown7 _ (by rfl) (by simp) (own_row hown6) (ones_u8 l1) (by unfold maxLen; omega) (by omega) (by omega) ?_; intro A8 c8 w8 hown8 hg8 _; go_must (have hg9 := below_grown hg8 (base := w2.heap.size) (by omega) (own_lt hown7)); go_must (have hb8 : Below w2.heap.size wt w8 := Below.trans (B := w2.heap.size) hb7 hg9); go_must (have d08 : w8.cell? (ad.add (k * 2)) = some (.int .u64 (s : Nat)) := (hg9.cell (p := ad.add (k * 2)) (by rw [add_block]; omega)).trans d0); go_must (have hC8 : Blk w8 gc 31 #[.int .i64 (N : Int), .slice (some ad) ids.length cap] := by (unfold Blk at hC3 ⊢; rw [hg9.block gc hT2]; exact hC3)); go_must (have c18 := (hC8.cell 1).trans (show _ = some (.slice (some ad) ids.length cap) from rfl)))
        refine (HU2.out _).mono ?_
        rintro e w9 ⟨A9, c9, rfl, hown9, hb9⟩
        clear HU2
        have hl8 : Hid ((out ++ l1).length = out.length + l1.length) := Lib.hid List.length_append
        have hown10 := own_below hown8 hb9
        rw [← List.map_append] at hown10
        rw [← hl8.out] at hown10 ⊢
        have hl9 : (out ++ l1).length ≤ 30 + 20 * k := by rw [hl8.out]; omega
        have HO2 : Hid (out ++ l1 ++ l2 = lebs (numsN N ids.length (ids.take (k + 1)))) := Lib.hid (by rw [HST.out, ← HO.out])
        generalize hol : out ++ l1 = o1 at *
        have hs8 := hg9.size
        have hs9 := hb9.size
        have hb10 : Below w2.heap.size wt w9 := Below.trans (B := w2.heap.size) hb8 (hb9.mono (by omega))
        clear hol hl8 hown7 hown8 hown6 hg8 hg9 hC3 d0 d08 c13 c18 hb6 hb7 hb8 HO HST hb9 hC8
        go_wp2_with (at_builtin; refine wpList_append_row rfl (.tmp 39) (.tmp 46) rfl w2.heap.size elem_u8 (by rfl) hown10 _ (by rfl) (by simp) (own_row hown9) (ones_u8 l2) (by unfold maxLen; omega) (by omega) (by omega) ?_; intro A11 c11 w11 hown11 hg11 _; have hb11 : Below w2.heap.size wt w11 := Below.trans (B := w2.heap.size) hb10 (below_grown hg11 (by omega) (own_lt hown10)))
        go_roundw
        case rel => exact ⟨k + 1, o1 ++ l2, A11, c11, by omega, by go_num, by rw [List.length_append], HO2, by rw [List.length_append]; omega, by rw [List.length_append, List.map_append]; exact hown11, hb11⟩
        case measure => simp [intOf]; omega
      · obtain rfl : k = ids.length := by omega
        rw [List.take_length] at HO
        have hg : Below gc w wr := Below.trans (B := gc) gT (hb.mono (by omega))
        go_wp2_with fail
        go_ret2
        unfold EncRes
        rw [HEB.out, HE.out, ← HO.out]
        exact ⟨Ao, co, rfl, own_mono hown (by rw [HGc.out]; omega), by rw [HGc.out]; exact hg⟩
  · have hne : (chkM n ids != 0) = true := by rw [bne_iff_ne]; exact he
    have HEB := Lib.hid (show encB n ids = [] by unfold encB; rw [if_neg he])
    clear he
    generalize hz : chkM n ids = z at *
    have HZ := Lib.hid hz
    clear hz
    go_wp2_with fail
    go_ret2
    unfold EncRes
    rw [HEB.out, HZ.out]
    exact ⟨none, 0, rfl, World.ownsRow_nil _ _ _ _, by rw [HGc.out]; exact g0⟩
end
end Go.Proofs.Ytnjhipnfhapngaa
