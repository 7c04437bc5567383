/-
  stockyardlaw37.fill and pieces.
-/
import Derived.Test.YtpoiejgoongllaaRecv37
import Derived.Test.YtpoiejgoongllaaBack25
namespace Go.Proofs.Ytpoiejgoongllaa
section
set_option linter.unusedVariables false
set_option linter.unusedSimpArgs false
set_option linter.unnecessarySimpa false
open Go.RowKit
attribute [local go_sem ↓] Go.wp_at_zero Go.wp_at_succ

/-- n bytes: P(i) = seed + i step -/
def fillZ (n a b : Nat) : List Int := (List.range n).map fun i => (((a + i * b) % 256 : Nat) : Int)
theorem fillZ_length (n a b : Nat) : (fillZ n a b).length = n := by simp [fillZ]
theorem fillZ_snoc (n a b : Nat) : fillZ (n + 1) a b = fillZ n a b ++ [(((a + n * b) % 256 : Nat) : Int)] := by
  unfold fillZ; rw [List.range_succ, List.map_append]; rfl
theorem fillZ_byt (n a b : Nat) : Byt (fillZ n a b) := by
  intro z hz
  unfold fillZ at hz
  obtain ⟨i, _, rfl⟩ := List.mem_map.1 hz
  omega
theorem set_fill {α : Type} (xs : List α) (z v : α) (n k : Nat) (h : xs.length = k) (hk : k < n) : (xs ++ List.replicate (n - k) z).set k v = (xs ++ [v]) ++ List.replicate (n - (k + 1)) z := by
  subst h
  rw [List.set_append_right _ _ (Nat.le_refl _), Nat.sub_self, show n - xs.length = (n - (xs.length + 1)) + 1 by omega, List.replicate_succ, List.set_cons_zero, List.append_assoc]
  rfl
theorem get_fill {α : Type} (xs : List α) (z : α) (n k : Nat) (h : xs.length = k) (hk : k < n) : (xs ++ List.replicate (n - k) z)[k]? = some z := by
  subst h
  rw [List.getElem?_append_right (Nat.le_refl _), Nat.sub_self, List.getElem?_replicate, if_pos (by omega)]
theorem toList_made (z : Value) (n : Nat) : (madeCells #[z] n).toList = List.replicate n z := by
  apply List.ext_getElem?
  intro j
  by_cases hj : j < n
  · simp [madeCells, hj, Nat.mod_one]
  · simp [madeCells, hj]

def FillRes (n a b : Nat) (w : World) (e : Ending) (w' : World) : Prop := ∃ A c, e = .returned (.slice A n c) ∧ w'.ownsRow w.heap.size 5 1 (.slice A n c) n ((fillZ n a b).map (.int .u8)) ∧ Grew w w'
set_option maxRecDepth 100000 in
set_option maxHeartbeats 2000000 in
theorem fill37_any (n a b : Nat) (w : World) (hn : n ≤ 4096) (ha : a ≤ 256) (hb : b ≤ 3) :
    Calls Try.prog 45 #[.int .i64 n, .int .i64 a, .int .i64 b] w (FillRes n a b w) := by
  obtain ⟨i0, hi, hz0, hz1, hz2⟩ := info_parts (show (Try.prog.info? 5).map (fun i => (i.zero, i.size, i.bytes)) = some (some (.int .u8 0), 1, 1) from by kernel_rfl)
  go_enter Try.func45, Try.ntmps45
  go_wp2_with (at_make; refine wpList_make_full _ rfl (.tmp 9) (.tmp 9) 38 rfl w.heap.size 5 i0 (.int .u8 0) 1 Try.underlying38 hi hz0 hz1 .i64 .i64 _ _ n rfl rfl rfl rfl (by rw [hz2]; omega) (by unfold maxLen; omega) (Nat.le_refl _) ?_; intro w1 hown hgrow)
  have hg1 : Grew w w1 := (Below.refl _ _).grown hgrow (Nat.le_refl _) (by simp)
  have hown0 : w1.ownsRow w.heap.size 5 1 (.slice (some ⟨w.heap.size, 0, none⟩) n n) n ((fillZ 0 a b).map (.int .u8) ++ List.replicate (n - 0) (.int .u8 0)) := by
    have h := hown
    rw [show (Value.int .u8 0).cells = #[.int .u8 0] from rfl, toList_made, Nat.mul_one] at h
    exact h
  clear hown hgrow
  generalize hg : w.heap.size = g at *
  have HG := Lib.hid hg
  have HG1 := Lib.hid hg1
  clear hg hg1
  go_loopw [8] (fun i wr => ∃ k : Nat, k ≤ n ∧ i = .int .i64 k ∧ wr.ownsRow g 5 1 (.slice (some ⟨g, 0, none⟩) n n) n ((fillZ k a b).map (.int .u8) ++ List.replicate (n - k) (.int .u8 0)) ∧ Ch (At g) w1 wr) (fun i _ => n - (intOf i).toNat)
  case atStart => exact ⟨0, Nat.zero_le _, rfl, hown0, Ch.refl _ _⟩
  case round =>
    clear hown0
    obtain ⟨k, hk, rfl, hown, hch⟩ := hrel
    have hfl : ((fillZ k a b).map (Value.int .u8)).length = k := by rw [List.length_map, fillZ_length]
    by_cases hlt : k < n
    · have c0 : wr.cell? ⟨g, k, none⟩ = some (.int .u8 0) := (hown.cellAt k (by omega)).trans (get_fill _ _ n k hfl hlt)
      have f0 := hown.frozenAt k
      have hst := hown.stored k (.int .u8 (((a + k * b) % 256 : Nat) : Int))
      rw [set_fill _ _ _ n k hfl hlt] at hst
      have hsn : (fillZ (k + 1) a b).map (Value.int .u8) = (fillZ k a b).map (.int .u8) ++ [.int .u8 (((a + k * b) % 256 : Nat) : Int)] := by rw [fillZ_snoc, List.map_append]; rfl
      rw [← hsn] at hst
      have HST := Lib.hid (fun (v : Int) (hv : v = (((a + k * b) % 256 : Nat) : Int)) => (show (wr.setCell ⟨g, k, none⟩ (.int .u8 v)).ownsRow g 5 1 (.slice (some ⟨g, 0, none⟩) n n) n ((fillZ (k + 1) a b).map (.int .u8) ++ List.replicate (n - (k + 1)) (.int .u8 0)) ∧ Ch (At g) w1 (wr.setCell ⟨g, k, none⟩ (.int .u8 v)) from by
        subst hv; exact ⟨hst.1, hch.trans (Ch.of_grown hst.2)⟩))
      have hkI : (k : Int) ≤ 4096 := by omega
      have haI : (a : Int) ≤ 256 := by omega
      clear hown hst hsn hfl
      have hb4 : b = 0 ∨ b = 1 ∨ b = 2 ∨ b = 3 := by omega
      rcases hb4 with rfl | rfl | rfl | rfl
      all_goals
        go_wp2_with fail
        exact ⟨⟨k + 1, by omega, by go_num, (HST.out _ (by omega)).1, (HST.out _ (by omega)).2⟩, by simp [intOf]; omega⟩
    · obtain rfl : k = n := by omega
      rw [Nat.sub_self, List.replicate_zero, List.append_nil] at hown
      go_wp2_with fail
      go_ret
      refine ⟨_, _, rfl, own_mono hown (Nat.le_of_eq HG.out), ?_⟩
      exact Below.trans (B := w.heap.size) HG1.out (hch.below HG1.out.size (fun i hi => by rw [hi, HG.out]; exact Nat.le_refl _))
/-- a piece of chapter 37 -/
def szs37 : List Nat := [1, 2, 5, 1024, 1025, 1500, 2049]
def PieceP (zs : List Int) : Prop := ∃ n a b, n ∈ szs37 ∧ a < 3 ∧ b < 3 ∧ zs = fillZ n a b
theorem PieceP.len {zs : List Int} (h : PieceP zs) : 1 ≤ zs.length ∧ zs.length ≤ 2049 ∧ Byt zs := by
  obtain ⟨n, a, b, hn, _, _, rfl⟩ := h
  rw [fillZ_length]
  simp only [szs37, List.mem_cons, List.not_mem_nil, or_false] at hn
  exact ⟨by omega, by omega, fillZ_byt n a b⟩
def Pcs37 (ps : List Part) : Prop := ∀ p ∈ ps, PieceP p.zs
def Pieces37Res (t B M n : Nat) (w : World) (e : Ending) (w' : World) : Prop := ∃ (A : Option Addr) (cap : Nat) (ps : List Part), e = .returned (.slice A ps.length cap) ∧ ps.length ≤ n ∧ Pcs37 ps ∧
  w'.ownsRow w.heap.size 38 1 (.slice A ps.length cap) ps.length (ps.map Part.v) ∧ Txs w' w.heap.size ps ∧ Tp w' t B (M + 1 + 3 * n) ∧ Ch (At t) w w' ∧ Caps ps
theorem szs_at {k : Nat} (h : k < 7) : szs37[k]? = some (szs37.getD k 0) ∧ szs37.getD k 0 ∈ szs37 := by
  have : k = 0 ∨ k = 1 ∨ k = 2 ∨ k = 3 ∨ k = 4 ∨ k = 5 ∨ k = 6 := by omega
  rcases this with rfl | rfl | rfl | rfl | rfl | rfl | rfl <;> exact ⟨rfl, by decide⟩

set_option maxRecDepth 100000 in
set_option maxHeartbeats 4000000 in
theorem pieces37_any (t B M n : Nat) (w : World) (hT : Tp w t B M) (hn : n ≤ 1000) (hM : M ≤ 281474976710656) :
    Calls Try.prog 11 #[.pointer (some ⟨t, 0, none⟩), .int .i64 n] w (Pieces37Res t B M n w) := by
  have hlt0 := hT.lt
  have hBw : B ≤ w.heap.size := by have h1 := hT.le; omega
  have g0 := grew_alloc w (.cells #[.int .i64 1, .int .i64 2, .int .i64 5, .int .i64 1024, .int .i64 1025, .int .i64 1500, .int .i64 2049] 3)
  have kS := Blk.new w 3 #[.int .i64 1, .int .i64 2, .int .i64 5, .int .i64 1024, .int .i64 1025, .int .i64 1500, .int .i64 2049]
  go_enter Try.func11, Try.ntmps11
  have b1 : (n : Int) + 1 ≤ 9223372036854775807 := by omega
  go_wp2_with fail
  generalize w.alloc (.cells #[.int .i64 1, .int .i64 2, .int .i64 5, .int .i64 1024, .int .i64 1025, .int .i64 1500, .int .i64 2049] 3) = w0 at *
  refine (tapeNext_any t B M ((n : Int) + 1) w0 (hT.of g0) b1 (by omega)).mono ?_
  clear b1
  rintro e w1 ⟨x, rfl, hx, hT1, hch⟩
  have y1 : x ≤ n := by omega
  have hch1 : Ch (At t) w w1 := (Ch.of_below g0).trans hch
  have kS1 := kS.ch hch (fun h => by have h2 : w.heap.size = t := h; omega)
  generalize hgs : w.heap.size = gs at *
  have HGs := Lib.hid hgs
  clear hgs hx hT hch kS g0
  go_wp2_with fail
  go_loopw [6, 7] (fun v i wr => ∃ (k : Nat) (ps : List Part) (A : Option Addr) (cap : Nat), i = .int .i64 k ∧ ps.length + k ≤ n ∧ v = .slice A ps.length cap ∧ Pcs37 ps ∧ wr.ownsRow gs 38 1 (.slice A ps.length cap) ps.length (ps.map Part.v) ∧ Txs wr gs ps ∧ Tp wr t B (M + 1 + 3 * ps.length) ∧ Ch (At t) w wr ∧ Caps ps ∧ Blk wr gs 3 #[.int .i64 1, .int .i64 2, .int .i64 5, .int .i64 1024, .int .i64 1025, .int .i64 1500, .int .i64 2049]) (fun _ i _ => (intOf i).toNat)
  case atStart => exact ⟨x, [], none, 0, rfl, by simpa using y1, rfl, fun p hp => (by cases hp), World.ownsRow_nil _ _ _ _, Txs.nil, hT1, hch1, Caps.nil, kS1⟩
  case round =>
    clear hT1 hch1 kS1
    obtain ⟨k, ps, A, cap, rfl, hk, rfl, hS, hown, hTx, hT, hch, hCp, kS⟩ := hrel
    by_cases hk0 : 0 < k
    · obtain ⟨k', rfl⟩ : ∃ k', k = k' + 1 := ⟨k - 1, by omega⟩
      have hk1 : (0 : Int) < ((k' + 1 : Nat) : Int) := by omega
      have hnt : t ≠ gs := fun h => by have h1 := HGs.out; omega
      have hno : (Value.slice A ps.length cap).ownBlock ≠ some gs := own_blk_ne hown kS (by decide)
      have hot : ∀ i, (Value.slice A ps.length cap).ownBlock = some i → i ≠ t := fun i hi h => by
        obtain ⟨_, _, _, _, hBt, _⟩ := hT.ex
        subst h
        exact own_blk_ne hown hBt (by decide) hi
      have HNB := tape_noBytes' hT
      have HSz := Lib.hid (fun (x2 : Nat) (h : x2 < 7) => (show wr.cell? ⟨gs, x2, none⟩ = some (.int .i64 (szs37.getD x2 0 : Nat)) from by
        have hx : x2 = 0 ∨ x2 = 1 ∨ x2 = 2 ∨ x2 = 3 ∨ x2 = 4 ∨ x2 = 5 ∨ x2 = 6 := by omega
        rcases hx with rfl | rfl | rfl | rfl | rfl | rfl | rfl <;> exact (kS.cell _).trans rfl))
      go_wp2_with fail
      refine wp_region_cls (Ch (fun i => i = t ∨ (Value.slice A ps.length cap).ownBlock = some i) wr) 15 (by kernel_rfl) ?_
      have hc0 := (Ch.refl (fun i => i = t ∨ (Value.slice A ps.length cap).ownBlock = some i) wr).drew
      refine AllC.head 0 5 (fuel := 11) (by first | exact fun h k => Grew.trans h k | exact fun h k => cls_grew h k) (hc0) (by rfl) (by kernel_rfl) ?_
      simp only [List.take_succ_cons, List.take_zero, List.drop_succ_cons, List.drop_zero]
      repeat (first
        | (refine HeadC.val (by rfl) ?_
           apply Exists.intro
           refine ⟨fun w' hw' => ?_, ?_⟩
           · (have hf_0 := hc0; (go_simp) <;> (try go_ints) <;> with_reducible rfl)
           try simp only [Act.put, List.setIfInBounds_toArray, List.set_cons_zero, List.set_cons_succ])
        | (refine HeadC.shut (by rfl) ?_
           try simp only [Act.put, List.setIfInBounds_toArray, List.set_cons_zero, List.set_cons_succ]))
      refine HeadC.nil ?_
      refine AllC.head 8 1 (fuel := 10) (by first | exact fun h k => Grew.trans h k | exact fun h k => cls_grew h k) (hc0) (by rfl) (by kernel_rfl) ?_
      simp only [List.take_succ_cons, List.take_zero, List.drop_succ_cons, List.drop_zero]
      repeat (first
        | (refine HeadC.val (by rfl) ?_
           apply Exists.intro
           refine ⟨fun w' hw' => ?_, ?_⟩
           · (have hf_0 := hc0; (go_simp) <;> (try go_ints) <;> with_reducible rfl)
           try simp only [Act.put, List.setIfInBounds_toArray, List.set_cons_zero, List.set_cons_succ])
        | (refine HeadC.shut (by rfl) ?_
           try simp only [Act.put, List.setIfInBounds_toArray, List.set_cons_zero, List.set_cons_succ]))
      refine HeadC.nil ?_
      refine AllC.head 10 1 (fuel := 9) (by first | exact fun h k => Grew.trans h k | exact fun h k => cls_grew h k) (hc0) (by rfl) (by kernel_rfl) ?_
      simp only [List.take_succ_cons, List.take_zero, List.drop_succ_cons, List.drop_zero]
      repeat (first
        | (refine HeadC.val (by rfl) ?_
           apply Exists.intro
           refine ⟨fun w' hw' => ?_, ?_⟩
           · (have hf_0 := hc0; (go_simp) <;> (try go_ints) <;> with_reducible rfl)
           try simp only [Act.put, List.setIfInBounds_toArray, List.set_cons_zero, List.set_cons_succ])
        | (refine HeadC.shut (by rfl) ?_
           try simp only [Act.put, List.setIfInBounds_toArray, List.set_cons_zero, List.set_cons_succ]))
      refine HeadC.nil ?_
      refine AllC.one 5 (by kernel_rfl) rfl ?_
      intro wg hg K hK
      go_simp
      have hg1 : Grew wr wg := (grew_drew wr).trans hg
      refine (tapeNext_any _ _ _ 7 _ (hT.of hg1) (by omega) (by omega)).mono ?_
      rintro e w2 ⟨x2, rfl, hx2, hT2, hch2⟩
      have y2 : x2 < 7 := by omega
      have hA2 : Ch (At t) wr w2 := (Ch.of_below hg1).trans hch2
      have hc2 : Ch (fun i => i = t ∨ (Value.slice A ps.length cap).ownBlock = some i) wr w2 := hA2.mono (fun _ _ h => .inl h)
      refine hK.out _ _ hc2 ?_
      clear hK K hg hg1 hch2 hc0 hx2 hT
      try simp only [Act.put, List.setIfInBounds_toArray, List.set_cons_zero, List.set_cons_succ]
      have hsz := HSz.out x2 y2
      have hsN := (szs_at y2).2
      generalize szs37.getD x2 0 = N at *
      have hN : 1 ≤ N ∧ N ≤ 2049 := by
        simp only [szs37, List.mem_cons, List.not_mem_nil, or_false] at hsN
        omega
      have HsN := Lib.hid hsN
      clear hsN HSz
      have y2I : (x2 : Int) < 7 := by omega
      have hns : ¬ (fun i => i = t ∨ (Value.slice A ps.length cap).ownBlock = some i) gs := fun h => h.elim (fun h => hnt h.symm) (fun h => hno h)
      refine AllC.head 6 2 (fuel := 6) (by first | exact fun h k => Grew.trans h k | exact fun h k => cls_grew h k) (hc2) (by rfl) (by kernel_rfl) ?_
      simp only [List.take_succ_cons, List.take_zero, List.drop_succ_cons, List.drop_zero]
      repeat (first
        | (refine HeadC.val (by rfl) ?_
           apply Exists.intro
           refine ⟨fun w' hw' => ?_, ?_⟩
           · (have hf_0 := hw'.cell hsz hns; (go_simp) <;> (try go_ints) <;> with_reducible rfl)
           try simp only [Act.put, List.setIfInBounds_toArray, List.set_cons_zero, List.set_cons_succ])
        | (refine HeadC.shut (by rfl) ?_
           try simp only [Act.put, List.setIfInBounds_toArray, List.set_cons_zero, List.set_cons_succ]))
      refine HeadC.nil ?_
      refine AllC.one 9 (by kernel_rfl) rfl ?_
      intro wg hg K hK
      go_simp
      refine (tapeNext_any _ _ _ 3 _ (hT2.of hg) (by omega) (by omega)).mono ?_
      rintro e w3 ⟨x3, rfl, hx3, hT3, hch3⟩
      have y3 : x3 < 3 := by omega
      have hA3 : Ch (At t) wr w3 := (hA2.next hg).trans hch3
      have hc3 : Ch (fun i => i = t ∨ (Value.slice A ps.length cap).ownBlock = some i) wr w3 := hA3.mono (fun _ _ h => .inl h)
      refine hK.out _ _ hc3 ?_
      clear hK K hg hch3 hA2 hc2 hx3 hT2
      try simp only [Act.put, List.setIfInBounds_toArray, List.set_cons_zero, List.set_cons_succ]
      refine AllC.one 11 (by kernel_rfl) rfl ?_
      intro wg hg K hK
      go_simp
      refine (tapeNext_any _ _ _ 3 _ (hT3.of hg) (by omega) (by omega)).mono ?_
      rintro e w4 ⟨x4, rfl, hx4, hT4, hch4⟩
      have y4 : x4 < 3 := by omega
      have hA4 : Ch (At t) wr w4 := (hA3.next hg).trans hch4
      have hc4 : Ch (fun i => i = t ∨ (Value.slice A ps.length cap).ownBlock = some i) wr w4 := hA4.mono (fun _ _ h => .inl h)
      refine hK.out _ _ hc4 ?_
      clear hK K hg hch4 hA3 hc3 hx4 hT3
      try simp only [Act.put, List.setIfInBounds_toArray, List.set_cons_zero, List.set_cons_succ]
      refine AllC.one 12 (by kernel_rfl) rfl ?_
      intro wg hg K hK
      go_simp
      refine (fill37_any N x3 x4 wg (by omega) (by omega) (by omega)).mono ?_
      rintro e w5 ⟨A5, c5, rfl, hown5, hb5⟩
      have hA5 : Ch (At t) wr w5 := (hA4.next hg).next hb5
      have hc5 : Ch (fun i => i = t ∨ (Value.slice A ps.length cap).ownBlock = some i) wr w5 := hA5.mono (fun _ _ h => .inl h)
      have hT5 := (hT4.of hg).of hb5
      have hws : gs ≤ wg.heap.size := by have h1 := kS.lt; have h2 := hA4.size; have h3 := hg.size; omega
      replace hown5 := own_mono hown5 hws
      refine hK.out _ _ hc5 ?_
      clear hK K hg hb5 hA4 hc4 hT4 hws
      try simp only [Act.put, List.setIfInBounds_toArray, List.set_cons_zero, List.set_cons_succ]
      refine AllC.one 13 (by kernel_rfl) rfl ?_
      intro wg hg K hK
      go_simp
      have hga := hg.trans (grew_alloc wg (.cells #[.slice A5 N c5] 38))
      have hrow := Blk.row (Blk.new wg 38 #[.slice A5 N c5])
      have hA6 : Ch (At t) wr (wg.alloc (.cells #[.slice A5 N c5] 38)) := hA5.next hga
      have hc6 : Ch (fun i => i = t ∨ (Value.slice A ps.length cap).ownBlock = some i) wr (wg.alloc (.cells #[.slice A5 N c5] 38)) := hA6.mono (fun _ _ h => .inl h)
      replace hT5 := hT5.of hga
      replace hown5 := own_below hown5 hga
      refine hK.out _ _ hc6 ?_
      clear hK K hg hA5 hc5 hga
      try simp only [Act.put, List.setIfInBounds_toArray, List.set_cons_zero, List.set_cons_succ]
      generalize wg.alloc (.cells #[.slice A5 N c5] 38) = w6 at *
      generalize wg.heap.size = g6 at *
      clear wg
      refine AllC.one 14 (by kernel_rfl) rfl ?_
      intro wg hg K hK
      have hA7 : Ch (At t) wr wg := hA6.next hg
      have hO7 := own_ch hown hA7 (fun i hi h => hot i hi h)
      have hTx8 := (hTx.ch hA7 HNB).snoc (p := ⟨A5, c5, fillZ N x3 x4⟩) (by
        refine Tx.own (n := N) ?_
        exact own_below hown5 hg)
      have hcap5 := (own_cap hown5).1
      have hrow7 := hrow.up hg (Nat.le_refl _)
      have hT7 := hT5.of hg
      have kS7 := kS.ch hA7 (fun h => hnt h.symm)
      have hps : ps.length ≤ 1000 := by omega
      have hgw : gs ≤ wg.heap.size := by have h1 := kS7.lt; omega
      refine step_append_row rfl (.tmp 17) (.tmp 30) rfl gs elem_bytes (by rfl) hO7 _ (by rfl) (by rfl) hrow7 (by simp [Value.oneCell']) (by unfold maxLen; omega) (by omega) hgw ?_
      intro A8 c8 w8 hown8 hg8 _
      have hc8 : Ch (fun i => i = t ∨ (Value.slice A ps.length cap).ownBlock = some i) wr w8 := (hA7.mono (fun _ _ h => .inl h)).trans ((Ch.of_own hg8).mono (fun _ _ h => .inr h))
      have hTx9 := hTx8.ch (Ch.of_own hg8) (own_noBytes hO7 (by decide))
      have hT8 := tape_own hT7 hO7 hg8 (by decide) (by have := HGs.out; omega)
      have kS8 := kS7.ch (Ch.of_own hg8) hno
      have hch8 : Ch (At t) w w8 := (hch.trans hA7).nextNew (Ch.of_own hg8) (fun i hi => .inl (by rw [HGs.out]; exact own_lt hO7 i hi))
      refine hK.out _ _ hc8 ?_
      clear hK K hg hA7 hO7 hTx8 hrow7 hT7 kS7 hgw hg8 hc8 hA6 hc6 hown5 hT5 hrow
      try simp only [Act.put, List.setIfInBounds_toArray, List.set_cons_zero, List.set_cons_succ]
      refine AllC.tail 15 (by rfl) (by kernel_rfl) ?_
      intro wt hwt
      simp only [List.drop_succ_cons, List.drop_zero]
      replace hown8 := own_below hown8 hwt
      replace hTx9 := hTx9.of hwt
      replace hT8 := hT8.of hwt
      replace kS8 := kS8.of hwt
      replace hch8 := hch8.next hwt
      have HN1 := Lib.hid (fillZ_length N x3 x4)
      have HS2 : Hid (Pcs37 (ps ++ [⟨A5, c5, fillZ N x3 x4⟩])) := Lib.hid (fun p hp => by
        rcases List.mem_append.1 hp with h | h
        · exact hS p h
        · rw [List.mem_singleton] at h; subst h; exact ⟨N, x3, x4, HsN.out, y3, y4, rfl⟩)
      have HC2 := Lib.hid (hCp.snoc (p := ⟨A5, c5, fillZ N x3 x4⟩) (by simp only; rw [fillZ_length]; exact hcap5))
      clear hwt hsz hns hown hTx hch hCp kS hS
      go_wp2_with fail
      go_roundw
      case rel =>
        refine ⟨k', ps ++ [⟨A5, c5, fillZ N x3 x4⟩], A8, c8, by go_num, by rw [List.length_append, List.length_singleton]; omega, by rw [List.length_append]; rfl, HS2.out, ?_, hTx9, hT8.more (by rw [List.length_append, List.length_singleton]; omega), hch8, HC2.out, kS8⟩
        have hv : Part.v ⟨A5, c5, fillZ N x3 x4⟩ = .slice A5 N c5 := by unfold Part.v; rw [HN1.out]
        rw [List.length_append, List.map_append, List.map_cons, List.map_nil, hv]
        exact hown8
      case measure => simp [intOf] <;> omega
    · obtain rfl : k = 0 := by omega
      go_wp2_with fail
      go_ret
      unfold Pieces37Res
      rw [HGs.out]
      exact ⟨A, cap, ps, rfl, by omega, hS, hown, hTx, hT.more (by omega), hch, hCp⟩
end
end Go.Proofs.Ytpoiejgoongllaa
