/-
  The reference's roller: New, Push, Sums.
-/
import Derived.Test.YtkcbdgdhcafcpaaRSums
import Derived.Test.YtkcbdgdhcafcpaaJoined
import Derived.Test.YtkcbdgdhcafcpaaRegC
namespace Go.Proofs.Ytkcbdgdhcafcpaa
set_option linter.unusedVariables false
set_option linter.unusedSimpArgs false
set_option linter.unnecessarySimpa false
open Go.RowKit
attribute [local go_sem ↓] Go.wp_at_zero Go.wp_at_succ

/-- a reference's roller, by value -/
def rrV (n : Int) (A : Option Addr) (len cap : Nat) : Value := .agg #[.int .i64 n, .slice A len cap]

set_option maxHeartbeats 1000000 in
theorem refNew_any (n : Int) (w : World) :
    Calls Try.prog 20 #[.int .i64 n] w fun e w' => e = .returned (.tuple #[rrV (if 1 ≤ n ∧ n ≤ 64 then n else 0) none 0 0, .int .i64 (if 1 ≤ n ∧ n ≤ 64 then 0 else 230)]) ∧ Below w.heap.size w w' := by
  by_cases h : 1 ≤ n ∧ n ≤ 64
  · rw [if_pos h, if_pos h]
    obtain ⟨h1, h2⟩ := h
    go_enter Try.func20, Try.ntmps20
    go_wp2_with fail
    refine bodyPost_ret (v := .tuple #[rrV n none 0 0, .int .i64 0]) ?_ rfl ⟨rfl, by (repeat (first | exact Below.refl _ _ | assumption | refine Below.drew ?_ | refine below_drewN ?_ _ | refine Below.alloc ?_ (by first | omega | (simp; done) | (simp; omega) | (simp [World.setCell]; omega)) _ | refine Below.setCell ?_ (by first | omega | (simp; done) | (simp; omega) | (simp [World.setCell]; omega)) _))⟩
    simp [results, Try.results20, go_sem, rrV]
  · rw [if_neg h, if_neg h]
    by_cases h1 : n < 1
    · go_enter Try.func20, Try.ntmps20
      go_wp2_with fail
      refine bodyPost_ret (v := .tuple #[rrV 0 none 0 0, .int .i64 230]) ?_ rfl ⟨rfl, by (repeat (first | exact Below.refl _ _ | assumption | refine Below.drew ?_ | refine below_drewN ?_ _ | refine Below.alloc ?_ (by first | omega | (simp; done) | (simp; omega) | (simp [World.setCell]; omega)) _ | refine Below.setCell ?_ (by first | omega | (simp; done) | (simp; omega) | (simp [World.setCell]; omega)) _))⟩
      simp [results, Try.results20, go_sem, rrV]
    · have h2 : 64 < n := by omega
      have h1' : 1 ≤ n := by omega
      clear h h1
      go_enter Try.func20, Try.ntmps20
      go_wp2_with fail
      refine bodyPost_ret (v := .tuple #[rrV 0 none 0 0, .int .i64 230]) ?_ rfl ⟨rfl, by (repeat (first | exact Below.refl _ _ | assumption | refine Below.drew ?_ | refine below_drewN ?_ _ | refine Below.alloc ?_ (by first | omega | (simp; done) | (simp; omega) | (simp [World.setCell]; omega)) _ | refine Below.setCell ?_ (by first | omega | (simp; done) | (simp; omega) | (simp [World.setCell]; omega)) _))⟩
      simp [results, Try.results20, go_sem, rrV]

set_option maxHeartbeats 1000000 in
theorem refPush_any (n : Nat) (A : Option Addr) (cap B : Nat) (ws : List Int) (b : Int) (w : World) (h1 : 1 ≤ n) (h2 : n ≤ 64) (hr : Row w B A (ws.map (.int .u8))) (hB : B ≤ w.heap.size) (hle : ws.length ≤ n) (b0 : 0 ≤ b) (b1 : b ≤ 255) :
    Calls Try.prog 25 #[rrV n A ws.length cap, .int .u8 b] w fun e w' => ∃ A' cap', e = .returned (rrV n A' (pushW n ws b).length cap') ∧ Row w' w'.heap.size A' ((pushW n ws b).map (.int .u8)) ∧ (∀ ad, A' = some ad → w.heap.size ≤ ad.block) ∧ Below w.heap.size w w' := by
  unfold rrV
  have hr2 := fun o o' => hr.below (((Below.refl w.heap.size w).alloc (Nat.le_refl _) o).alloc (by simp) o') hB
  have HR := Lib.hid hr2
  clear hr2
  go_enter Try.func25, Try.ntmps25
  have hl1 : (1 : Int) ≤ (ws.length : Int) + 1 := by omega
  have hres : ∀ (A2 : Option Addr) (cap2 : Nat) (w2 : World), w2.ownsRow (w.heap.size + 1 + 1) 5 1 (.slice A2 (ws.length + 1) cap2) (ws.length + 1) (ws.map (.int .u8) ++ [.int .u8 b]) →
      (ws.length < n → Row w2 w2.heap.size A2 ((pushW n ws b).map (.int .u8)) ∧ (pushW n ws b).length = ws.length + 1) ∧
      (n ≤ ws.length → Row w2 w2.heap.size (A2.map (·.add 1)) ((pushW n ws b).map (.int .u8)) ∧ (pushW n ws b).length = ws.length) := fun A2 cap2 w2 h => by
    have hrow : Row w2 w2.heap.size A2 ((ws ++ [b]).map (.int .u8)) := by
      have := own_row h
      rw [List.map_append]; exact this
    refine ⟨fun hl => ⟨by rw [pushW_lt hl]; exact hrow, pushW_len_lt hl⟩, fun hl => ⟨?_, pushW_len_ge hl⟩⟩
    rw [pushW_ge hl]
    have := hrow.cut 1 (ws.length)
    rwa [← List.map_drop, List.take_of_length_le (by simp)] at this
  have HRes := Lib.hid hres
  clear hres
  go_wp2_with (at_builtin; first
    | (refine wpList_append_row rfl (.const (.slice none 0 0)) (.tmp 7) rfl (w.heap.size + 1 + 1) elem_u8 (by rfl) (World.ownsRow_nil _ _ _ _) B (by rfl) (by simp) (HR.out _ _) (ones_u8 _) (by unfold maxLen; omega) (by omega) (by simp) ?_; intro A1 cap1 w1 hown1 hg1 _; simp only [Nat.zero_add, List.nil_append] at hown1; have hb1 := hg1.size; simp only [World.size_alloc] at hb1)
    | (refine wpList_append_row rfl (.tmp 8) (.tmp 10) rfl (w.heap.size + 1 + 1) elem_u8 (by rfl) (hown1.alloc _) _ (by rfl) (by rfl) (Blk.row (Blk.new w1 5 #[.int .u8 b])) (by simp [Value.oneCell']) (by unfold maxLen; omega) (by omega) (by simp; omega) ?_
       intro A2 cap2 w2 hown2 hg2 _
       have hbb := (below_grown hg1 (base := w.heap.size + 1 + 1) (by simp) (by simp [Value.ownBlock])).trans (((Below.refl _ _).alloc hb1 (.cells #[.int .u8 b] 5)).trans (below_grown hg2 (by simp; omega) (own_lt hown1)))
       have f0 : w2.cell? ⟨w.heap.size, 0, none⟩ = some (.int .i64 n) := (hbb.cell (by simp; omega)).trans (by go_simp)
       have f1 : w2.cell? ⟨w.heap.size + 1, 0, none⟩ = some (.int .i64 0) := (hbb.cell (by simp)).trans (by go_simp)
       have f2 : w2.cell? ⟨w.heap.size + 1, 1, none⟩ = some (.slice none 0 0) := (hbb.cell (by simp)).trans (by go_simp)
       have f3 : w2.frozen? ⟨w.heap.size + 1, 0, none⟩ = false := (hbb.frozen (by simp)).trans (by go_simp)
       have f4 : w2.frozen? ⟨w.heap.size + 1, 1, none⟩ = false := (hbb.frozen (by simp)).trans (by go_simp)
       have hb2 : Below w.heap.size w w2 := ((((Below.refl w.heap.size w).alloc (Nat.le_refl _) _).alloc (by simp) _).trans (hbb.mono (by omega)))
       have HP := Lib.hid (HRes.out A2 cap2 w2 hown2)
       have HQ := Lib.hid (own_lt hown2)
       obtain ⟨hc1, hc2⟩ := own_cap hown2
       clear hbb hg1 hg2 hown1 hown2))
  · have hge : n ≤ ws.length := by omega
    obtain ⟨hrow, hlen⟩ := HP.out.2 hge
    have hch := ((Ch.refl (At (w.heap.size + 1)) w2).set_at 0 (.int .i64 n)).set_at 1 (.slice (A2.map (·.add 1)) ws.length (cap2 - 1))
    refine bodyPost_ret (v := rrV n (A2.map (·.add 1)) ws.length (cap2 - 1)) ?_ rfl ⟨A2.map (·.add 1), cap2 - 1, by rw [hlen]; rfl, ?_, ?_, ?_⟩
    · simp [results, Try.results25, go_sem, rrV, f1, f2]
    · exact (hrow.chA hch (Nat.le_refl _) (fun ad h => by
        obtain ⟨ad', hA, rfl⟩ := Option.map_eq_some_iff.1 h
        have := HQ.out ad'.block (by rw [hA]; rfl)
        show ¬ (ad'.add 1).block = w.heap.size + 1
        rw [add_block]
        omega)).more hch.size
    · intro ad h
      obtain ⟨ad', hA, rfl⟩ := Option.map_eq_some_iff.1 h
      have := HQ.out ad'.block (by rw [hA]; rfl)
      rw [add_block]
      omega
    · exact hb2.trans (hch.below hb2.size (fun i hi => by rw [hi]; omega))
  · have hlt : ws.length < n := by omega
    obtain ⟨hrow, hlen⟩ := HP.out.1 hlt
    have hch := ((Ch.refl (At (w.heap.size + 1)) w2).set_at 0 (.int .i64 n)).set_at 1 (.slice A2 (ws.length + 1) cap2)
    refine bodyPost_ret (v := rrV n A2 (ws.length + 1) cap2) ?_ rfl ⟨A2, cap2, by rw [hlen]; rfl, ?_, ?_, ?_⟩
    · simp [results, Try.results25, go_sem, rrV, f1, f2]
    · exact (hrow.chA hch (Nat.le_refl _) (fun ad h => by
        have := HQ.out ad.block (by rw [h]; rfl)
        show ¬ ad.block = w.heap.size + 1
        omega)).more hch.size
    · intro ad h
      have := HQ.out ad.block (by rw [h]; rfl)
      omega
    · exact hb2.trans (hch.below hb2.size (fun i hi => by rw [hi]; omega))

theorem winSums_take_succ (n : Nat) (zs : List Int) (k : Nat) (h : k < zs.length) : winSums n (zs.take (k + 1)) = winSums n (zs.take k) ++ [sumZ (lastN n (zs.take (k + 1)))] := by
  unfold winSums
  rw [List.length_take, List.length_take, Nat.min_eq_left (by omega), Nat.min_eq_left (by omega), List.range_succ, List.map_append]
  congr 1
  · refine List.map_congr_left fun j hj => ?_
    have := List.mem_range.1 hj
    rw [List.take_take, List.take_take, Nat.min_eq_left (by omega), Nat.min_eq_left (by omega)]
  · simp [List.take_take]
/-- a row's place: not block g, not the block of v -/
def Off (A : Option Addr) (g : Nat) (v : Value) : Prop := ∀ ad, A = some ad → ad.block ≠ g ∧ v.ownBlock ≠ some ad.block

set_option maxHeartbeats 1000000 in
theorem refSums_any (n : Nat) (A : Option Addr) (cap B : Nat) (zs : List Int) (w : World) (h1 : 1 ≤ n) (h2 : n ≤ 64) (hr : Row w B A (zs.map (.int .u8))) (hB : B ≤ w.heap.size) (hz : ∀ z ∈ zs, 0 ≤ z ∧ z ≤ 255) (hm : zs.length ≤ 1048576) :
    Calls Try.prog 13 #[.int .i64 n, .slice A zs.length cap] w fun e w' => ∃ A' cap', e = .returned (.tuple #[.slice A' zs.length cap', .int .i64 0]) ∧
      w'.ownsRow w.heap.size 33 1 (.slice A' zs.length cap') zs.length ((winSums n zs).map (.int .u64)) ∧ Below w.heap.size w w' := by
  have Hz := Lib.hid hz
  clear hz
  have hif : (if 1 ≤ (n : Int) ∧ (n : Int) ≤ 64 then (n : Int) else 0) = n := if_pos (by omega)
  have hif2 : (if 1 ≤ (n : Int) ∧ (n : Int) ≤ 64 then (0 : Int) else 230) = 0 := if_pos (by omega)
  have HN := Lib.hid (fun W => refNew_any n W)
  rw [hif, hif2] at HN
  clear hif hif2
  unfold rrV at HN
  go_enter Try.func13, Try.ntmps13
  go_wp2_with fail
  refine (HN.out _).mono ?_
  rintro e w1 ⟨rfl, hb1⟩
  clear HN
  go_wp2_with fail
  have hgb := hb1.size
  have hb2 : Below w.heap.size w (w1.alloc (.cells #[.int .i64 n, .slice none 0 0] 39)) := hb1.alloc hgb _
  have hB2 := Blk.new w1 39 #[.int .i64 n, .slice none 0 0]
  generalize w1.alloc (.cells #[.int .i64 n, .slice none 0 0] 39) = w2 at *
  generalize w1.heap.size = gb at *
  clear hb1
  go_loopw [8, 9] (fun v i wr => (∃ k : Nat, k ≤ zs.length ∧ i = .int .i64 k ∧ ∃ Ao co, v = .slice Ao k co ∧ wr.ownsRow w.heap.size 33 1 (.slice Ao k co) k ((winSums n (zs.take k)).map (.int .u64)) ∧
      ∃ A c, Blk wr gb 39 #[.int .i64 n, .slice A (lastN n (zs.take k)).length c] ∧ Row wr wr.heap.size A ((lastN n (zs.take k)).map (.int .u8)) ∧ Off A gb (.slice Ao k co)) ∧ Below w.heap.size w wr) (fun _ i _ => zs.length - (intOf i).toNat)
  case atStart =>
    refine ⟨⟨0, Nat.zero_le _, rfl, none, 0, rfl, by simpa [winSums] using World.ownsRow_nil _ _ _ _, none, 0, ?_, ?_, fun ad h => by cases h⟩, hb2⟩
    · rw [List.take_zero, lastN_nil]; exact hB2
    · rw [List.take_zero, lastN_nil]; exact Row.nil
  case round =>
    clear hB2 hb2
    obtain ⟨⟨k, hk, rfl, Ao, co, rfl, hown, A1, c1, hBl, hrow, hoff⟩, hb⟩ := hrel
    by_cases hlt : k < zs.length
    · obtain ⟨ad, rfl, hbl, hc⟩ := (hr.below hb hB).at_ (k := k) (by simpa using hlt)
      rw [List.getElem_map] at hc
      have hbd := elem_bd Hz.out hlt
      have hbs := hb.size
      have HP := Lib.hid (lastN_take_push n zs k hlt)
      have HW := Lib.hid (winSums_take_succ n zs k hlt)
      have hle := lastN_le n (zs.take k)
      have hle2 := lastN_le n (zs.take (k + 1))
      have HC := Lib.hid (fun W (h : Row W W.heap.size A1 ((lastN n (zs.take k)).map (.int .u8))) => refPush_any n A1 c1 W.heap.size (lastN n (zs.take k)) zs[k] W h1 h2 h (Nat.le_refl _) hle hbd.1 hbd.2)
      have HE := Lib.hid (show ∀ z ∈ lastN n (zs.take (k + 1)), 0 ≤ z ∧ z ≤ 255 from fun z hz => Hz.out z (List.mem_of_mem_take (List.mem_of_mem_drop hz)))
      rw [HP.out] at HC
      unfold rrV at HC
      have b0 := hBl.cell 0
      have b1 := hBl.cell 1
      have hk1 : (k : Int) < zs.length := by omega
      simp only [List.getElem?_toArray, List.getElem?_cons_zero, List.getElem?_cons_succ] at b0 b1
      have HB := Lib.hid hBl
      clear hBl HP
      generalize hl1 : lastN n (zs.take k) = l1 at *
      generalize hl2 : lastN n (zs.take (k + 1)) = l2 at *
      clear hl1
      have HL2 := Lib.hid hl2
      clear hl2
      go_wp2_with fail
      refine wp_region_g 5 (by kernel_rfl) ?_
      refine AllC.head 0 5 (fuel := 2) (by first | exact fun h k => Grew.trans h k | exact fun h k => cls_grew h k) (grew_drew _) (by rfl) (by kernel_rfl) ?_
      simp only [List.take_succ_cons, List.take_zero, List.drop_succ_cons, List.drop_zero]
      repeat (first
        | (refine HeadC.val (by rfl) ?_
           apply Exists.intro
           refine ⟨fun w' hw' => ?_, ?_⟩
           · (have hf_0 := cell_up hw' b0; have hf_1 := cell_up hw' b1; have hf_2 := cell_up hw' hc; (go_simp) <;> (try go_ints) <;> with_reducible rfl)
           try simp only [Act.put, List.setIfInBounds_toArray, List.set_cons_zero, List.set_cons_succ])
        | (refine HeadC.shut (by rfl) ?_
           try simp only [Act.put, List.setIfInBounds_toArray, List.set_cons_zero, List.set_cons_succ]))
      refine HeadC.nil ?_
      refine AllC.tail 5 (by rfl) (by kernel_rfl) ?_
      intro wt hwt
      simp only [List.drop_succ_cons, List.drop_zero]
      have hg1 : Grew wr wt := (grew_drew _).trans hwt
      replace hrow := (hrow.below hg1 (Nat.le_refl _)).more hg1.size
      replace hown := own_below hown hg1
      replace hb : Below w.heap.size w wt := Below.trans (B := w.heap.size) hb (hg1.mono hbs)
      replace HB := Lib.hid (HB.out.of hg1)
      clear hwt hg1 b0 b1 hc hbs
      have hbs := hb.size
      go_wp2_with fail
      refine (HC.out wt hrow).mono ?_
      clear HC hrow
      rintro e w5 ⟨A5, c5, rfl, hrow, hfr, hb5⟩
      have HB5 := Lib.hid (HB.out.of hb5)
      have hown5 := own_below hown hb5
      have hoff5 : Off A5 gb (.slice Ao k co) := fun ad h => by
        have h3 := hfr ad h
        refine ⟨fun e => by have := HB.out.lt; omega, fun e => by have := (hown.lt _ e).2; omega⟩
      replace hb : Below w.heap.size w w5 := hb.trans (hb5.mono hbs)
      have hog : (Value.slice Ao k co).ownBlock ≠ some gb := own_blk_ne hown HB.out (by decide)
      clear hown HB hb5 hbs hfr hoff
      have hbs := hb.size
      have b0 := HB5.out.cell 0
      have b1 := HB5.out.cell 1
      have f0 := HB5.out.frozen 0
      have f1 := HB5.out.frozen 1
      simp only [List.getElem?_toArray, List.getElem?_cons_zero, List.getElem?_cons_succ] at b0 b1
      have hB6 := (HB5.out.set_ 0 (.int .i64 n)).set_ 1 (.slice A5 l2.length c5)
      have hch := ((Ch.refl (At gb) w5).set_at 0 (.int .i64 n)).set_at 1 (.slice A5 l2.length c5)
      have HB6 := Lib.hid hB6
      have HCh := Lib.hid hch
      clear hB6 hch
      go_wp2_with fail
      generalize (w5.setCell ⟨gb, 0, none⟩ (.int .i64 n)).setCell ⟨gb, 1, none⟩ (.slice A5 l2.length c5) = w6 at *
      have hrow6 := (hrow.chA HCh.out (Nat.le_refl _) (fun ad h => (hoff5 ad h).1)).more HCh.out.size
      refine (refSum_any A5 c5 _ l2 w6 hrow6 HE.out (by omega)).mono ?_
      rintro e w7 ⟨rfl, hd7⟩
      have k7 : Ch (At gb) w5 w7 := HCh.out.drawn hd7
      have hown7 := own_ch hown5 k7 (fun g h => by rintro rfl; exact hog h)
      have HB7 := Lib.hid (HB6.out.of (hd7.below _))
      have hrow7 := (hrow6.below (hd7.below _) (Nat.le_refl _)).more (hd7.below w6.heap.size).size
      have hb7 : Below w.heap.size w w7 := hb.trans (k7.below hbs (fun i hi => by rw [hi]; exact hgb))
      have hbs7 := hb7.size
      have hl2 : 0 < l2.length := by rw [← HL2.out, lastN_len, List.length_take]; omega
      clear HB5 hown5 hrow hrow6 HB6 HCh k7 hd7 hb hbs b0 b1 f0 f1
      go_wp2_with (at_builtin; refine wpList_append_row rfl (.tmp 30) (.tmp 34) rfl w.heap.size elem_u64 (by rfl) (hown7.alloc _) _ (by rfl) (by rfl) (Blk.row (Blk.new w7 33 #[.int .u64 (sumZ l2)])) (by simp [Value.oneCell']) (by unfold maxLen; omega) (by omega) (by simp; omega) ?_; intro A8 c8 w8 hown8 hg8 hwh8)
      have HF := Lib.hid (show ∀ ad, A5 = some ad → ad.block < w7.heap.size from fun ad h => by
        obtain ⟨ad', h', hb', _⟩ := hrow7.at_ (k := 0) (by simpa using hl2)
        rw [h] at h'
        injection h' with h'
        rw [h']; exact hb')
      have hga : Grew w7 (w7.alloc (.cells #[.int .u64 (sumZ l2)] 33)) := grew_alloc _ _
      have hch8 := Ch.of_own hg8
      have HB8 := Lib.hid (((HB7.out.of hga).ch hch8 (fun h => hog h)))
      have hrow8 := (((hrow7.below hga (Nat.le_refl _)).more hga.size).chA hch8 (Nat.le_refl _) (fun ad h h' => (hoff5 ad h).2 h')).more hch8.size
      have hb8 : Below w.heap.size w w8 := (hb7.trans (hga.mono hbs7)).trans (below_grown hg8 (by simp; omega) (own_lt hown7))
      have hoff8 : Off A5 gb (.slice A8 (k + 1) c8) := fun ad h => by
        refine ⟨(hoff5 ad h).1, fun e => ?_⟩
        rcases hwh8 with h' | h'
        · rw [e] at h'; exact (hoff5 ad h).2 h'.symm
        · rw [e] at h'
          injection h' with h'
          simp only [World.size_alloc] at h'
          have := HF.out ad h
          omega
      have HO := Lib.hid hoff8
      clear hoff8 hwh8 hg8 hch8 hga hoff5 hrow7 hown7 hb7 hbs7
      go_wp2_with fail
      go_roundw
      case rel =>
        refine ⟨⟨k + 1, by omega, by go_num, A8, c8, rfl, ?_, A5, c5, ?_, ?_, HO.out⟩, hb8⟩
        · rw [HW.out, List.map_append]; exact hown8
        · rw [HL2.out]; exact HB8.out
        · rw [HL2.out]; exact hrow8
      case measure => simp [intOf]; omega
    · have e : k = zs.length := by omega
      subst e
      rw [List.take_length] at hown
      go_wp2_with fail
      go_ret2
      exact ⟨Ao, co, rfl, hown, hb⟩

end Go.Proofs.Ytkcbdgdhcafcpaa
