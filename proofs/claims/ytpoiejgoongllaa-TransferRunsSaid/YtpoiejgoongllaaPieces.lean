/-
  Of, Pieces.
-/
import Derived.Test.YtpoiejgoongllaaTx
import Derived.Test.YtpoiejgoongllaaReg0
import Derived.Test.YtpoiejgoongllaaTape
import Derived.Test.YtpoiejgoongllaaIdz
namespace Go.Proofs.Ytpoiejgoongllaa
/- Of:
  fingerprint.Of: the ID of a byte string.
-/
section
set_option linter.unusedVariables false
set_option linter.unusedSimpArgs false
set_option linter.unnecessarySimpa false
open Go.RowKit
attribute [local go_sem ↓] Go.wp_at_zero Go.wp_at_succ

set_option maxHeartbeats 400000 in
theorem of_any (A : Option Addr) (cap B : Nat) (zs : List Int) (w : World) (hr : Row w B A (zs.map (.int .u8))) (hB : B ≤ w.heap.size) (hz : ∀ z ∈ zs, 0 ≤ z ∧ z ≤ 255) (hm : zs.length ≤ 9223372036854775807) :
    Calls Try.prog 28 #[.slice A zs.length cap] w fun e w' => e = .returned (.agg #[.int .u64 (sumZ zs), .int .i64 zs.length]) ∧ Below w.heap.size w w' := by
  have HC := Lib.hid (sum_any A cap B zs (w.alloc (.cells #[.int .u64 0, .int .i64 0] 53)) (hr.below ((Below.refl _ _).alloc (Nat.le_refl _) _) hB) hz hm)
  clear hz
  go_enter Try.func28, Try.ntmps28
  go_wp2_with fail
  refine HC.out.mono ?_
  rintro e w' ⟨rfl, rfl⟩
  go_wp2_with fail
  refine bodyPost_ret (v := .agg #[.int .u64 (sumZ zs), .int .i64 zs.length]) ?_ rfl ⟨rfl, ?_⟩
  · simp [results, Try.results28, go_sem]
  · (repeat (first | exact Below.refl _ _ | assumption | refine Below.drew ?_ | refine below_drewN ?_ _ | refine Below.alloc ?_ (by first | omega | (simp; done) | (simp; omega) | (simp [World.setCell]; omega)) _ | refine Below.setCell ?_ (by first | omega | (simp; done) | (simp; omega) | (simp [World.setCell]; omega)) _))
end

/- Pieces:
  stockyardlaw25.pieces: byte strings of 1 to 9 bytes; stockyardref25.Of: their manifest.
-/
section
set_option linter.unusedVariables false
set_option linter.unusedSimpArgs false
set_option linter.unnecessarySimpa false
open Go.RowKit
attribute [local go_sem ↓] Go.wp_at_zero Go.wp_at_succ

theorem tape_noBytes' {w : World} {t B M : Nat} (h : Tp w t B M) : NoBytes w (At t) := by
  obtain ⟨_, _, _, _, hB, _⟩ := h.ex
  exact blk_noBytes hB (by decide)
theorem tape_own {w w' : World} {t B M base : Nat} {e : TypeId} {s n : Nat} {v : Value} {xs : List Value} (h : Tp w t B M) (ho : w.ownsRow base e s v n xs) (hg : w.grownBy w' v.ownBlock) (hne : e ≠ 25) (hb : B ≤ base) : Tp w' t B M :=
  h.ch (Ch.of_own hg) (fun hi => by
    obtain ⟨_, _, _, _, hBt, _⟩ := h.ex
    exact own_blk_ne ho hBt hne hi) (fun i hi => by have := own_lt ho i hi; omega)
/-- a byte string -/
def Byt (zs : List Int) : Prop := ∀ z ∈ zs, 0 ≤ z ∧ z ≤ 255
/-- small byte strings -/
def SmallP (ps : List Part) : Prop := ∀ p ∈ ps, 1 ≤ p.zs.length ∧ p.zs.length ≤ 9 ∧ Byt p.zs
theorem SmallP.nil : SmallP [] := fun p hp => by simp at hp
theorem SmallP.snoc {ps : List Part} {p : Part} (h : SmallP ps) (h1 : 1 ≤ p.zs.length) (h2 : p.zs.length ≤ 9) (h3 : Byt p.zs) : SmallP (ps ++ [p]) := fun q hq => by
  rcases List.mem_append.1 hq with hq | hq
  · exact h q hq
  · rw [List.mem_singleton] at hq; subst hq; exact ⟨h1, h2, h3⟩
/-- no part is longer than its capacity -/
def Caps (ps : List Part) : Prop := ∀ p ∈ ps, p.zs.length ≤ p.cap
theorem Caps.nil : Caps [] := fun p hp => by simp at hp
theorem Caps.snoc {ps : List Part} {p : Part} (h : Caps ps) (h1 : p.zs.length ≤ p.cap) : Caps (ps ++ [p]) := fun q hq => by
  rcases List.mem_append.1 hq with hq | hq
  · exact h q hq
  · rw [List.mem_singleton] at hq; subst hq; exact h1
def PiecesRes (t B M n : Nat) (w : World) (e : Ending) (w' : World) : Prop := ∃ (A : Option Addr) (cap : Nat) (ps : List Part), e = .returned (.slice A ps.length cap) ∧ ps.length ≤ n ∧ SmallP ps ∧
  w'.ownsRow w.heap.size 38 1 (.slice A ps.length cap) ps.length (ps.map Part.v) ∧ Txs w' w.heap.size ps ∧ Tp w' t B (M + 1 + 12 * n) ∧ Ch (At t) w w' ∧ Caps ps

set_option maxHeartbeats 400000 in
theorem refOf_any (A : Option Addr) (cap B : Nat) (zs : List Int) (w : World) (hr : Row w B A (zs.map (.int .u8))) (hB : B ≤ w.heap.size) (hz : ∀ z ∈ zs, 0 ≤ z ∧ z ≤ 255) (hm : zs.length ≤ 9223372036854775807) :
    Calls Try.prog 46 #[.slice A zs.length cap] w fun e w' => e = .returned (.agg #[.int .u64 (sumZ zs), .int .i64 zs.length]) ∧ Below w.heap.size w w' := by
  have HC := Lib.hid (refSum_any A cap B zs (w.alloc (.cells #[.int .u64 0, .int .i64 0] 53)) (hr.below ((Below.refl _ _).alloc (Nat.le_refl _) _) hB) hz hm)
  clear hz
  go_enter Try.func46, Try.ntmps46
  go_wp2_with fail
  refine HC.out.mono ?_
  rintro e w' ⟨rfl, hd⟩
  have hg := Grew.trans (grew_alloc w (.cells #[.int .u64 0, .int .i64 0] 53)) (hd.below _)
  have hBk := (Blk.new w 53 #[.int .u64 0, .int .i64 0]).of (hd.below _)
  have f0 := hBk.frozen 0
  have f1 := hBk.frozen 1
  have c0 : w'.cell? ⟨w.heap.size, 0, none⟩ = some (.int .u64 0) := (hBk.cell 0).trans rfl
  have c1 : w'.cell? ⟨w.heap.size, 1, none⟩ = some (.int .i64 0) := (hBk.cell 1).trans rfl
  clear hd
  go_wp2_with fail
  refine bodyPost_ret (v := .agg #[.int .u64 (sumZ zs), .int .i64 zs.length]) ?_ rfl ⟨rfl, ?_⟩
  · simp [results, Try.results46, go_sem, c0, c1]
  · exact (Below.setCell (Below.setCell hg (Nat.le_refl _) _) (Nat.le_refl _) _)

/-- the ID of a byte string -/
def idOf (zs : List Int) : IdZ := (sumZ zs, zs.length)
def idsOf (ps : List Part) : List IdZ := ps.map fun p => idOf p.zs
theorem idsOf_length (ps : List Part) : (idsOf ps).length = ps.length := by simp [idsOf]
theorem idsOf_snoc (ps : List Part) (k : Nat) (h : k < ps.length) : idsOf (ps.take (k + 1)) = idsOf (ps.take k) ++ [idOf ps[k].zs] := by
  unfold idsOf; rw [List.take_succ_eq_append_getElem h, List.map_append]; rfl
theorem idsC_one (x : IdZ) : idsC [x] = [.int .u64 x.1, .int .i64 x.2] := rfl
theorem sumN_append (l m : List IdZ) : sumN (l ++ m) = sumN l + sumN m := by unfold sumN; rw [List.map_append, List.sum_append]
theorem elem_id : Elem Try.prog 31 53 2 16 := elem_mk (z := .agg #[.int .u64 0, .int .i64 0]) Try.underlying31 (by kernel_rfl) rfl (by omega)
/-- element k of a row of byte strings -/
theorem part_at {w : World} {B : Nat} {A : Option Addr} {ps : List Part} (hr : Row w B A (ps.map Part.v)) {k : Nat} (h : k < ps.length) : ∃ ad : Addr, A = some ad ∧ ad.block < B ∧ w.cell? (ad.add k) = some (.slice ps[k].A ps[k].zs.length ps[k].cap) := by
  obtain ⟨ad, rfl, hb, hc⟩ := hr.at_ (k := k) (by simpa using h)
  rw [List.getElem_map] at hc
  exact ⟨ad, rfl, hb, hc⟩
theorem sumN_of (ps : List Part) : sumN (idsOf ps) = ((ps.map fun p => p.zs.length).sum : Nat) := by
  induction ps with
  | nil => rfl
  | cons p ps ih =>
    simp only [idsOf, sumN, List.map_cons, List.sum_cons] at ih ⊢
    rw [ih, Int.natCast_add]
    rfl
theorem sum_take_le (ps : List Part) (k : Nat) : ((ps.take k).map fun p => p.zs.length).sum ≤ (ps.map fun p => p.zs.length).sum := by
  rw [List.map_take]
  exact take_sum_le _ k

set_option maxHeartbeats 2000000 in
theorem refOf25_any (L : Option Addr) (lc bl base : Nat) (ps : List Part) (w : World) (hl : w.ownsRow bl 38 1 (.slice L ps.length lc) ps.length (ps.map Part.v)) (hp : Txs w base ps) (hz : ∀ p ∈ ps, Byt p.zs) (hm : ps.length ≤ 1048576) (hs : (ps.map fun p => p.zs.length).sum ≤ 1073741824) :
    Calls Try.prog 14 #[.slice L ps.length lc] w fun e w' => ∃ A cap, e = .returned (.agg #[.int .i64 (sumN (idsOf ps)), .slice A ps.length cap]) ∧
      w'.ownsRow w.heap.size 53 2 (.slice A ps.length cap) ps.length (idsC (idsOf ps)) ∧ Below w.heap.size w w' := by
  have Hz := Lib.hid hz
  have g0 := grew_alloc w (.cells #[.int .i64 0, .slice none 0 0] 33)
  have hR := Blk.new w 33 #[.int .i64 0, .slice none 0 0]
  have g1 := grew_alloc (w.alloc (.cells #[.int .i64 0, .slice none 0 0] 33)) (.cells #[.int .i64 0, .slice none 0 0] 33)
  have hG := Blk.new (w.alloc (.cells #[.int .i64 0, .slice none 0 0] 33)) 33 #[.int .i64 0, .slice none 0 0]
  have hl1 := own_below (own_below hl g0) g1
  have hp1 := (hp.of g0).of g1
  have hR1 := hR.of g1
  have gs : (w.alloc (.cells #[.int .i64 0, .slice none 0 0] 33)).heap.size = w.heap.size + 1 := by simp
  have g01 := Grew.trans g0 g1
  rw [gs] at hG
  clear hz hl hp hR g0 g1
  go_enter Try.func14, Try.ntmps14
  go_wp2_with fail
  have gs2 : ((w.alloc (.cells #[.int .i64 0, .slice none 0 0] 33)).alloc (.cells #[.int .i64 0, .slice none 0 0] 33)).heap.size = w.heap.size + 2 := by simp
  generalize (w.alloc (.cells #[.int .i64 0, .slice none 0 0] 33)).alloc (.cells #[.int .i64 0, .slice none 0 0] 33) = w1 at *
  generalize hgc : w.heap.size = gc at *
  have HGc := Lib.hid hgc
  clear hgc
  go_loopw [4] (fun i wr => ∃ (k : Nat) (Am : Option Addr) (cm : Nat), k ≤ ps.length ∧ i = .int .i64 k ∧ Blk wr (gc + 1) 33 #[.int .i64 (sumN (idsOf (ps.take k))), .slice Am k cm] ∧
    wr.ownsRow (gc + 2) 53 2 (.slice Am k cm) k (idsC (idsOf (ps.take k))) ∧ Ch (At (gc + 1)) w1 wr) (fun i _ => ps.length - (intOf i).toNat)
  case atStart => exact ⟨0, none, 0, Nat.zero_le _, rfl, hG, World.ownsRow_nil _ _ _ _, Ch.refl _ _⟩
  case round =>
    obtain ⟨k, Am, cm, hk, rfl, hB, hown, hch⟩ := hrel
    by_cases hlt : k < ps.length
    · have hlr := own_ch hl1 hch (fun i hi h => own_blk_ne hl1 hG (by decide) (by rw [hi]; exact congrArg some h))
      have hTr := hp1.ch hch (blk_noBytes hG (by decide))
      obtain ⟨ad, rfl, hbl, hc⟩ := part_at (own_row hlr) hlt
      have hsn := idsOf_snoc ps k hlt
      have hsum : sumN (idsOf (ps.take (k + 1))) = sumN (idsOf (ps.take k)) + (ps[k].zs.length : Int) := by rw [hsn, sumN_append]; simp [sumN, idOf]
      have hbd1 := sumN_of (ps.take k)
      have hbd2 := sumN_of (ps.take (k + 1))
      have hle1 := sum_take_le ps k
      have hle2 := sum_take_le ps (k + 1)
      have hs0 : 0 ≤ sumN (idsOf (ps.take k)) := by rw [hbd1]; exact Int.natCast_nonneg _
      have hs1 : sumN (idsOf (ps.take k)) + (ps[k].zs.length : Int) ≤ 1073741824 := by rw [← hsum, hbd2]; omega
      have HSN := Lib.hid hsn
      have HSU := Lib.hid hsum
      have hTp := hTr ps[k] (List.getElem_mem hlt)
      have hzb := Hz.out ps[k] (List.getElem_mem hlt)
      have hzl : ps[k].zs.length ≤ 1073741824 := by omega
      have hws := hch.size
      have hne1 : (Value.slice Am k cm).ownBlock ≠ some (gc + 1) := own_blk_ne hown hB (by decide)
      have hne2 : ∀ i, (Value.slice Am k cm).ownBlock = some i → ad.block ≠ i := fun i hi h => own_own_ne hown hlr (by decide) i hi (by rw [← h]; rfl)
      have hnb := own_noBytes hown (by decide)
      clear hsn hsum hbd1 hbd2 hle1 hle2
      generalize sumN (idsOf (ps.take k)) = sm at *
      have hpe : ps[k] = ⟨ps[k].A, ps[k].cap, ps[k].zs⟩ := rfl
      rw [hpe] at hTp
      clear hpe
      generalize ps[k].zs = zs at *
      generalize ps[k].A = pA at *
      generalize ps[k].cap = pc at *
      have b0 : wr.cell? ⟨gc + 1, 0, none⟩ = some (.int .i64 sm) := (hB.cell 0).trans rfl
      go_wp2_with fail
      refine wp_region_g 9 (by kernel_rfl) ?_
      refine AllC.head 0 9 (fuel := 1) (by first | exact fun h k => Grew.trans h k | exact fun h k => cls_grew h k) (grew_drew _) (by rfl) (by kernel_rfl) ?_
      simp only [List.take_succ_cons, List.take_zero, List.drop_succ_cons, List.drop_zero]
      repeat (first
        | (refine HeadC.val (by rfl) ?_
           apply Exists.intro
           refine ⟨fun w' hw' => ?_, ?_⟩
           · (have hf_0 := cell_up hw' b0; have hf_1 := cell_up hw' hc; (go_simp) <;> (try go_ints) <;> with_reducible rfl)
           try simp only [Act.put, List.setIfInBounds_toArray, List.set_cons_zero, List.set_cons_succ])
        | (refine HeadC.shut (by rfl) ?_
           try simp only [Act.put, List.setIfInBounds_toArray, List.set_cons_zero, List.set_cons_succ]))
      refine HeadC.nil ?_
      refine AllC.tail 9 (by rfl) (by kernel_rfl) ?_
      intro wt hwt
      simp only [List.drop_succ_cons, List.drop_zero]
      have hg1 := (grew_drew wr).trans hwt
      have hB2 := hB.of hg1
      have f0 := hB2.frozen 0
      have b0' : wt.cell? ⟨gc + 1, 0, none⟩ = some (.int .i64 sm) := (hB2.cell 0).trans rfl
      clear b0
      go_wp2_with fail
      have hst := (Ch.refl (At (gc + 1)) wt).set_at 0 (.int .i64 (sm + zs.length))
      have hB3 : Blk (wt.setCell ⟨gc + 1, 0, none⟩ (.int .i64 (sm + zs.length))) (gc + 1) 33 #[.int .i64 (sm + zs.length), .slice Am k cm] := hB2.set_ 0 _
      have hk3 : Ch (At (gc + 1)) wr (wt.setCell ⟨gc + 1, 0, none⟩ (.int .i64 (sm + zs.length))) := (Ch.of_below hg1).trans hst
      have hown3 := own_ch hown hk3 (fun i hi h => hne1 (by rw [hi]; exact congrArg some h))
      have hTp3 := hTp.ch hk3 (blk_noBytes hB (by decide))
      have hlr3 := own_ch hlr hk3 (fun i hi h => own_blk_ne hlr hB (by decide) (by rw [hi]; exact congrArg some h))
      have hc3 := hk3.cell hc (fun h => own_blk_ne hlr hB (by decide) (by rw [← (show (ad.add k).block = gc + 1 from h), add_block]; rfl))
      have hch3 := hch.trans hk3
      have hnb3 := own_noBytes hown3 (by decide)
      clear hst hB2 hg1 hwt f0 b0' hown hTp hlr hc hch hB hnb hTr
      generalize wt.setCell ⟨gc + 1, 0, none⟩ (.int .i64 (sm + zs.length)) = w5 at *
      clear hk3 wt
      have hws5 := hch3.size
      have d1 : w5.cell? ⟨gc + 1, 1, none⟩ = some (.slice Am k cm) := (hB3.cell 1).trans rfl
      have hl5 : ad.block < w5.heap.size := by have := World.block_lt_of_cell? w5 _ hc3; rwa [add_block] at this
      refine wp_region_cls (Ch (fun i => (Value.slice Am k cm).ownBlock = some i) w5) 9 (by kernel_rfl) ?_
      have hc0 := (Ch.refl (fun i => (Value.slice Am k cm).ownBlock = some i) w5).drew
      refine AllC.head 0 7 (fuel := 4) (by first | exact fun h k => Grew.trans h k | exact fun h k => cls_grew h k) (hc0) (by rfl) (by kernel_rfl) ?_
      simp only [List.take_succ_cons, List.take_zero, List.drop_succ_cons, List.drop_zero]
      repeat (first
        | (refine HeadC.val (by rfl) ?_
           apply Exists.intro
           refine ⟨fun w' hw' => ?_, ?_⟩
           · (have hf_0 := hw'.cell d1 hne1; have hf_1 := hw'.cell hc3 (fun h => hne2 _ h (by rw [add_block])); (go_simp) <;> (try go_ints) <;> with_reducible rfl)
           try simp only [Act.put, List.setIfInBounds_toArray, List.set_cons_zero, List.set_cons_succ])
        | (refine HeadC.call (by rfl) ?_
           apply Exists.intro; apply Exists.intro
           refine ⟨fun w' hw' => ?_, ?_⟩
           · (have hf_0 := hw'.cell d1 hne1; have hf_1 := hw'.cell hc3 (fun h => hne2 _ h (by rw [add_block])); (go_simp) <;> first | (refine ⟨?_, ?_⟩ <;> with_reducible rfl) | with_reducible rfl)
           apply Exists.intro
           refine ⟨fun w' hw' => ?_, ?_⟩
           · (first | exact refOf_any pA pc w'.heap.size zs w' (hTp3.ch hw' hnb3).row (Nat.le_refl _) hzb (by omega))
           try simp only [Act.put, List.setIfInBounds_toArray, List.set_cons_zero, List.set_cons_succ])
        | (refine HeadC.shut (by rfl) ?_
           try simp only [Act.put, List.setIfInBounds_toArray, List.set_cons_zero, List.set_cons_succ]))
      refine HeadC.nil ?_
      refine AllC.one 7 (by kernel_rfl) rfl ?_
      intro wg hg K hK
      go_simp
      have hg0 := (grew_drew w5).trans hg
      have hc7 : Ch (fun i => (Value.slice Am k cm).ownBlock = some i) w5 (wg.alloc (.cells #[.int .u64 (sumZ zs), .int .i64 zs.length] 53)) := (Ch.of_below hg0).alloc _
      have hown7 := own_below hown3 (hg0.trans (grew_alloc wg (.cells #[.int .u64 (sumZ zs), .int .i64 zs.length] 53)))
      have hrow7 := Blk.row (Blk.new wg 53 #[.int .u64 (sumZ zs), .int .i64 zs.length])
      refine hK.out _ _ hc7 ?_
      clear hK K hg hc0 hown3
      try simp only [Act.put, List.setIfInBounds_toArray, List.set_cons_zero, List.set_cons_succ]
      have hsz7 : w1.heap.size ≤ (wg.alloc (.cells #[.int .u64 (sumZ zs), .int .i64 zs.length] 53)).heap.size := Nat.le_trans hws5 hc7.size
      generalize wg.alloc (.cells #[.int .u64 (sumZ zs), .int .i64 zs.length] 53) = w7 at *
      generalize wg.heap.size = g7 at *
      clear hg0 wg
      refine AllC.one 8 (by kernel_rfl) rfl ?_
      intro wg hg K hK
      have hown8 := own_below hown7 hg
      have hrow8 := hrow7.up hg (Nat.le_refl _)
      have hsz8 := Nat.le_trans hsz7 hg.size
      refine step_append_row rfl (.tmp 21) (.tmp 27) rfl (gc + 2) elem_id (by rfl) hown8 _ (by rfl) (by rfl) hrow8 (by simp [Value.oneCell']) (by unfold maxLen; omega) (by omega) (by omega) ?_
      intro A8 c8 w8 hown9 hg8 hwh
      have hc8 : Ch (fun i => (Value.slice Am k cm).ownBlock = some i) w5 w8 := (hc7.next hg).trans (Ch.of_own hg8)
      refine hK.out _ _ hc8 ?_
      have hch8 := hch3.nextNew hc8 (fun i hi => .inl (by have := own_lt hown8 i hi; omega))
      have hB8 := hB3.ch hc8 hne1
      clear hK K hg hg8 hwh hown8 hrow8 hown7 hrow7 hc7 hc8 hsz8 hsz7
      try simp only [Act.put, List.setIfInBounds_toArray, List.set_cons_zero, List.set_cons_succ]
      refine AllC.tail 9 (by rfl) (by kernel_rfl) ?_
      intro wt hwt
      simp only [List.drop_succ_cons, List.drop_zero]
      have hown10 := own_below hown9 hwt
      have hch10 := hch8.next hwt
      have hB10 := hB8.of hwt
      have d10 : wt.cell? ⟨gc + 1, 1, none⟩ = some (.slice Am k cm) := (hB10.cell 1).trans rfl
      have f10 := hB10.frozen 1
      clear hown9 hch8 hB8 hwt hB3 hTp3 hlr3 hnb3 hc3 d1 hch3
      go_wp2_with fail
      go_roundw
      case rel =>
        have hne10 : (Value.slice A8 (k + 1) c8).ownBlock ≠ some (gc + 1) := own_blk_ne hown10 hB10 (by decide)
        refine ⟨k + 1, A8, c8, by omega, by go_num, ?_, ?_, hch10.trans ((Ch.refl (At (gc + 1)) wt).set_at 1 _)⟩
        · rw [HSU.out]
          exact hB10.set_ 1 _
        · rw [HSN.out, idsC_append]
          exact own_ch hown10 ((Ch.refl (At (gc + 1)) wt).set_at 1 (.slice A8 (k + 1) c8)) (fun i hi h => hne10 (by rw [hi]; exact congrArg some h))
      case measure => simp [intOf]; omega
    · obtain rfl : k = ps.length := by omega
      rw [List.take_length] at hB hown
      have hR := hR1.ch hch (by show ¬ gc = gc + 1; omega)
      have b0 : wr.cell? ⟨gc + 1, 0, none⟩ = some (.int .i64 (sumN (idsOf ps))) := (hB.cell 0).trans rfl
      have b1 : wr.cell? ⟨gc + 1, 1, none⟩ = some (.slice Am ps.length cm) := (hB.cell 1).trans rfl
      have r0 : wr.cell? ⟨gc, 0, none⟩ = some (.int .i64 0) := (hR.cell 0).trans rfl
      have r1 : wr.cell? ⟨gc, 1, none⟩ = some (.slice none 0 0) := (hR.cell 1).trans rfl
      have f0 := hR.frozen 0
      have f1 := hR.frozen 1
      have hRl := hR.lt
      go_wp2_with fail
      have hk4 := ((Ch.refl (At gc) wr).set_at 0 (.int .i64 (sumN (idsOf ps)))).set_at 1 (.slice Am ps.length cm)
      have hown4 := own_ch hown hk4 (fun i hi h => by have := own_lt hown i hi; have h' : i = gc := h; omega)
      refine bodyPost_ret (v := .agg #[.int .i64 (sumN (idsOf ps)), .slice Am ps.length cm]) ?_ rfl ⟨Am, cm, rfl, own_mono hown4 (by rw [HGc.out]; omega), ?_⟩
      · simp [results, Try.results14, go_sem, r0, r1]
      · have h1 : Below w.heap.size w wr := Below.trans (B := w.heap.size) g01 (hch.below (by rw [HGc.out]; omega) (fun i hi => by have h' : i = gc + 1 := hi; rw [HGc.out]; omega))
        exact Below.trans (B := w.heap.size) h1 (hk4.below h1.size (fun i hi => by have h' : i = gc := hi; rw [HGc.out]; omega))
end

end Go.Proofs.Ytpoiejgoongllaa
