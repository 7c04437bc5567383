/-
  slices.Index, slices.Delete, slices.Clone of IDs; slices.Clone of bytes.
-/
import Derived.Test.YtpoiejgoongllaaSlice37
namespace Go.Proofs.Ytpoiejgoongllaa
section
set_option linter.unusedVariables false
set_option linter.unusedSimpArgs false
set_option linter.unnecessarySimpa false
open Go.RowKit
attribute [local go_sem ↓] Go.wp_at_zero Go.wp_at_succ

theorem flat_take {α β : Type} {f : α → List β} {c : Nat} (hf : ∀ a, (f a).length = c) : ∀ (l : List α) (i : Nat), (l.flatMap f).take (i * c) = (l.take i).flatMap f
  | [], i => by simp
  | a :: l, 0 => by simp
  | a :: l, i + 1 => by
    rw [List.take_succ_cons, List.flatMap_cons, List.flatMap_cons, List.take_append, hf, show (i + 1) * c - c = i * c by rw [Nat.add_mul]; omega, flat_take hf l i, List.take_of_length_le (by rw [hf, Nat.add_mul]; omega)]
theorem flat_drop {α β : Type} {f : α → List β} {c : Nat} (hf : ∀ a, (f a).length = c) : ∀ (l : List α) (i : Nat), (l.flatMap f).drop (i * c) = (l.drop i).flatMap f
  | [], i => by simp
  | a :: l, 0 => by simp
  | a :: l, i + 1 => by
    rw [List.drop_succ_cons, List.flatMap_cons, List.drop_append, hf, show (i + 1) * c - c = i * c by rw [Nat.add_mul]; omega, flat_drop hf l i, List.drop_of_length_le (by rw [hf, Nat.add_mul]; omega), List.nil_append]
theorem ids_del {l : List IdZ} {i : Nat} : (idsC l).take (i * 2) ++ (idsC l).drop ((i + 1) * 2) = idsC (l.eraseIdx i) := by
  unfold idsC
  rw [flat_take (f := idC) (c := 2) (fun _ => rfl), flat_drop (f := idC) (c := 2) (fun _ => rfl), List.eraseIdx_eq_take_drop_succ, List.flatMap_append]

/-- the place of x, or -1 -/
def idxI (l : List IdZ) (x : IdZ) : Int := if x ∈ l then (l.idxOf x : Int) else -1
theorem idxI_no {l : List IdZ} {x : IdZ} (h : ¬ x ∈ l) : idxI l x = -1 := by unfold idxI; rw [if_neg h]
theorem idxI_at {l : List IdZ} {x : IdZ} {k : Nat} (hk : k < l.length) (he : l[k] = x) (hn : ¬ x ∈ l.take k) : idxI l x = k := by
  have hx : x ∈ l := by rw [← he]; exact List.getElem_mem hk
  unfold idxI
  rw [if_pos hx]
  have e : l = l.take k ++ (l[k] :: l.drop (k + 1)) := by rw [← List.drop_eq_getElem_cons hk, List.take_append_drop]
  rw [e, List.idxOf_append, if_neg hn, he, List.idxOf_cons_self, List.length_take]
  omega

set_option maxHeartbeats 1000000 in
theorem index_id (A : Option Addr) (cap B : Nat) (l : List IdZ) (x : IdZ) (w : World) (hr : Row w B A (idsC l)) (hB : B ≤ w.heap.size) (hm : l.length ≤ 9223372036854775807) :
    Calls Try.prog 59 #[.slice A l.length cap, .agg #[.int .u64 x.1, .int .i64 x.2]] w fun e w' => e = .returned (.int .i64 (idxI l x)) ∧ Grew w w' := by
  obtain ⟨xs, xn⟩ := x
  have g0 := grew_alloc w (.cells #[.int .u64 xs, .int .i64 xn] 53)
  have hX := Blk.new w 53 #[.int .u64 xs, .int .i64 xn]
  have hr0 := hr.below g0 hB
  have x0 := (hX.cell 0).trans (show _ = some (.int .u64 xs) from rfl)
  have x1 := (hX.cell 1).trans (show _ = some (.int .i64 xn) from rfl)
  go_enter Try.func59, Try.ntmps59
  go_wp2_with fail
  generalize w.alloc (.cells #[.int .u64 xs, .int .i64 xn] 53) = w1 at *
  generalize w.heap.size = gc at *
  go_loopw [8] (fun i wr => ∃ k : Nat, k ≤ l.length ∧ i = .int .i64 k ∧ Hid (¬ (xs, xn) ∈ l.take k) ∧ Drawn w1 wr) (fun i _ => l.length - (intOf i).toNat)
  case atStart => exact ⟨0, Nat.zero_le _, rfl, Lib.hid (by simp), Drawn.refl _⟩
  case round =>
    obtain ⟨k, hk, rfl, HN, hd⟩ := hrel
    by_cases hlt : k < l.length
    · obtain ⟨ad, rfl, _, d0, d1⟩ := ids_at (hr0.keep (w' := wr) fun p _ => hd.cell p) hlt
      have z0 := (hd.cell ⟨gc, 0, none⟩).trans x0
      have z1 := (hd.cell ⟨gc, 1, none⟩).trans x1
      have HT := Lib.hid (List.take_succ_eq_append_getElem hlt)
      generalize hy : l[k] = y at *
      have HY := Lib.hid hy
      clear hy
      obtain ⟨y1, y2⟩ := y
      simp only at d0 d1
      by_cases he : ((y1, y2) : IdZ) = (xs, xn)
      · have HI := Lib.hid (idxI_at hlt (HY.out.trans he) HN.out)
        obtain ⟨rfl, rfl⟩ := Prod.mk.inj he
        clear he
        go_wp2_with fail
        go_quiet (fail)
        go_wp2
        go_ret
        exact ⟨ret_i64 HI.out.symm, Grew.trans g0 ((hd.drewN _).below _)⟩
      · have HN2 := Lib.hid (show ¬ (xs, xn) ∈ l.take (k + 1) by
          rw [HT.out, List.mem_append, List.mem_singleton]
          rintro (h | h)
          · exact HN.out h
          · exact he h.symm)
        rcases id_ne (fun h => he h.symm) with hne | ⟨rfl, hne⟩
        · clear he
          go_wp2_with fail
          go_quiet (fail)
          go_wp2
          go_roundw
          case rel => exact ⟨k + 1, by omega, by go_num, HN2, hd.drewN _⟩
          case measure => simp [intOf]; omega
        · clear he
          go_wp2_with fail
          go_quiet (fail)
          go_wp2
          go_roundw
          case rel => exact ⟨k + 1, by omega, by go_num, HN2, hd.drewN _⟩
          case measure => simp [intOf]; omega
    · obtain rfl : k = l.length := by omega
      rw [List.take_length] at HN
      have HI := Lib.hid (idxI_no HN.out)
      go_wp2_with fail
      go_ret
      exact ⟨ret_i64 HI.out.symm, Grew.trans g0 (hd.below _)⟩

set_option maxRecDepth 100000 in
set_option maxHeartbeats 1000000 in
theorem delete_id (g m cap base i : Nat) (l : List IdZ) (w : World) (hown : w.ownsRow base 53 2 (.slice (some ⟨g, 0, none⟩) (m + 1) cap) (m + 1) (idsC l)) (hi : i ≤ m) :
    Calls Try.prog 60 #[.slice (some ⟨g, 0, none⟩) (m + 1 : Nat) cap, .int .i64 i, .int .i64 ((i : Int) + 1)] w fun e w' => e = .returned (.slice (some ⟨g, 0, none⟩) m cap) ∧
      w'.ownsRow base 53 2 (.slice (some ⟨g, 0, none⟩) m cap) m (idsC (l.eraseIdx i)) ∧ Ch (At g) w w' := by
  obtain ⟨hc1, hc2⟩ := own_cap hown
  have hne : ((i : Int) == (i : Int) + 1) = false := by rw [beq_eq_false_iff_ne]; omega
  have hw1 : IntKind.i64.wrap ((i : Int) + 1) = (i : Int) + 1 := Go.IntWalk.i64_in _ (by omega)
  have hx0 := Ch.refl (At g) w
  have HX := Lib.hid hown
  clear hown
  by_cases hcap : cap = i + 1
  · obtain rfl : i = m := by omega
    subst hcap
    have q1 : (i : Int) ≤ ((i : Int) + 1) := by omega
    have q2 : (i : Int) + 1 ≤ (i : Int) + 1 := by omega
    have q3 : 0 ≤ (i : Int) + 1 := by omega
    have q4 : ((i : Int) + 1).toNat = i + 1 := by omega
    go_enter Try.func60, Try.ntmps60
    go_wp2_with fail
    refine wp_region_cls (Ch (At g) w) 6 (by kernel_rfl) ?_
    have hc0 := hx0.drew
    refine AllC.head 0 6 (fuel := 2) (by first | exact fun h k => Grew.trans h k | exact fun h k => cls_grew h k) (hc0) (by rfl) (by kernel_rfl) ?_
    simp only [List.take_succ_cons, List.take_zero, List.drop_succ_cons, List.drop_zero]
    repeat (first
      | (refine HeadC.val (by rfl) ?_
         apply Exists.intro
         refine ⟨fun w' hw' => ?_, ?_⟩
         · (have hf_0 := hc0; (go_simp) <;> (try go_ints) <;> with_reducible rfl)
         try simp only [Act.put, List.setIfInBounds_toArray, List.set_cons_zero, List.set_cons_succ])
      | (refine HeadC.shut (by rfl) ?_
         try simp only [Act.put, List.setIfInBounds_toArray, List.set_cons_zero, List.set_cons_succ]))
    refine HeadC.nil ?_
    refine AllC.tail 6 (by rfl) (by kernel_rfl) ?_
    intro wt hwt
    simp only [List.drop_succ_cons, List.drop_zero]
    have hc1' := hc0.next hwt
    have hown1 := own_below HX.out ((grew_drew _).trans hwt)
    clear q1 q2 q3 q4 hne hw1 hx0 hc0 hwt
    refine wpList_append_shift rfl (.tmp 22) (.tmp 25) rfl base elem_id hown1 hi (ones_ids _) (by rfl) (by rfl) (by omega) (.inl rfl) ?_
    intro w2 ys hown2 hys hg2
    have HYS := Lib.hid hys
    clear hys
    have hml : (i : Int) ≤ (i : Int) + 1 := by omega
    have hmc : (i : Int) + 1 ≤ ((i : Int) + 1) := by omega
    obtain ⟨w3, hclr, hown3, hg3⟩ := run_clear_last (P := Try.prog) (ty := 0) base elem_id (z := .agg #[.int .u64 0, .int .i64 0]) (by kernel_rfl) rfl (by simp [Value.cells, Value.oneCell']) hown2 1
    go_wp2
    go_ret
    refine ⟨rfl, ?_, (hc1'.trans (Ch.of_grown hg2)).trans (Ch.of_grown hg3)⟩
    rw [HYS.out, ids_del] at hown3
    exact hown3
  · have hcI : ¬ (cap : Int) = (i : Int) + 1 := by omega
    have q1 : (i : Int) ≤ (cap : Int) := by omega
    have q2 : (i : Int) + 1 ≤ (m : Int) + 1 := by omega
    have q3 : 0 ≤ (i : Int) + 1 := by omega
    have q4 : ((i : Int) + 1).toNat = i + 1 := by omega
    go_enter Try.func60, Try.ntmps60
    go_wp2_with fail
    refine wp_region_cls (Ch (At g) w) 6 (by kernel_rfl) ?_
    have hc0 := hx0.drew
    refine AllC.head 0 6 (fuel := 2) (by first | exact fun h k => Grew.trans h k | exact fun h k => cls_grew h k) (hc0) (by rfl) (by kernel_rfl) ?_
    simp only [List.take_succ_cons, List.take_zero, List.drop_succ_cons, List.drop_zero]
    repeat (first
      | (refine HeadC.val (by rfl) ?_
         apply Exists.intro
         refine ⟨fun w' hw' => ?_, ?_⟩
         · (have hf_0 := hc0; (go_simp) <;> (try go_ints) <;> with_reducible rfl)
         try simp only [Act.put, List.setIfInBounds_toArray, List.set_cons_zero, List.set_cons_succ])
      | (refine HeadC.shut (by rfl) ?_
         try simp only [Act.put, List.setIfInBounds_toArray, List.set_cons_zero, List.set_cons_succ]))
    refine HeadC.nil ?_
    refine AllC.tail 6 (by rfl) (by kernel_rfl) ?_
    intro wt hwt
    simp only [List.drop_succ_cons, List.drop_zero]
    have hc1' := hc0.next hwt
    have hown1 := own_below HX.out ((grew_drew _).trans hwt)
    clear q1 q2 q3 q4 hne hw1 hx0 hc0 hwt
    refine wpList_append_shift rfl (.tmp 22) (.tmp 25) rfl base elem_id hown1 hi (ones_ids _) (by rfl) (by rfl) (by omega) (.inr rfl) ?_
    intro w2 ys hown2 hys hg2
    have HYS := Lib.hid hys
    clear hys
    have hml : (m : Int) ≤ (m : Int) + 1 := by omega
    have hmc : (m : Int) + 1 ≤ (cap : Int) := by omega
    obtain ⟨w3, hclr, hown3, hg3⟩ := run_clear_last (P := Try.prog) (ty := 0) base elem_id (z := .agg #[.int .u64 0, .int .i64 0]) (by kernel_rfl) rfl (by simp [Value.cells, Value.oneCell']) hown2 (cap - m)
    go_wp2
    go_ret
    refine ⟨rfl, ?_, (hc1'.trans (Ch.of_grown hg2)).trans (Ch.of_grown hg3)⟩
    rw [HYS.out, ids_del] at hown3
    exact hown3
end
end Go.Proofs.Ytpoiejgoongllaa
