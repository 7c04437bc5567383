/-
  manifest.Whole.
-/
import Derived.Test.YtpoiejgoongllaaKnown25
import Derived.Test.YtpoiejgoongllaaJoin
namespace Go.Proofs.Ytpoiejgoongllaa
set_option linter.unusedVariables false
set_option linter.unusedSimpArgs false
set_option linter.unnecessarySimpa false
open Go.RowKit
attribute [local go_sem ↓] Go.wp_at_zero Go.wp_at_succ

def jnS (a x : IdZ) : IdZ := ((joinR a.1 a.2 x.1 x.2).1, (joinR a.1 a.2 x.1 x.2).2.1)
def whS (l : List IdZ) : IdZ := l.foldl jnS (0, 0)
theorem whS_take {l : List IdZ} {k : Nat} (h : k < l.length) : whS (l.take (k + 1)) = jnS (whS (l.take k)) l[k] := by
  unfold whS
  rw [List.take_succ_eq_append_getElem h, List.foldl_append]
  rfl
theorem whS_inv {l : List IdZ} (hw : ∀ x ∈ l, WfI x) (ho : l.all okId = true) (hs : sumN l ≤ 1048576) : ∀ k, k ≤ l.length →
    0 ≤ (whS (l.take k)).1 ∧ vldB (whS (l.take k)).1 (whS (l.take k)).2 = true ∧ (whS (l.take k)).2 = sumN (l.take k)
  | 0, _ => ⟨by show (0 : Int) ≤ 0; omega, by show vldB 0 0 = true; decide, by show (0 : Int) = 0; rfl⟩
  | k + 1, hk => by
    have hlt : k < l.length := by omega
    obtain ⟨h1, h2, h3⟩ := whS_inv hw ho hs k (by omega)
    have hx := List.all_eq_true.1 ho _ (List.getElem_mem hlt)
    have hv : vldB l[k].1 l[k].2 = true := by unfold okId at hx; rw [Bool.and_eq_true] at hx; exact hx.1
    have hm : sumN (l.take (k + 1)) ≤ sumN l := by
      have := sumN_mono ho (i := k + 1) (j := l.length) hk
      rwa [List.take_length] at this
    have hst := sumN_take l k hlt
    have hb : (whS (l.take k)).2 + l[k].2 ≤ 1048576 := by omega
    have hj := joinR_ok h2 hv hb
    rw [whS_take hlt]
    unfold jnS
    rw [hj]
    refine ⟨?_, join_vld h2 hv hb, ?_⟩
    · have := fadd_fp (fmul (whS (l.take k)).1 (powI l[k].2)) l[k].1
      unfold Fp at this
      exact this.1
    · show (whS (l.take k)).2 + l[k].2 = _
      omega
theorem whS_join {l : List IdZ} (hw : ∀ x ∈ l, WfI x) (ho : l.all okId = true) (hs : sumN l ≤ 1048576) {k : Nat} (hk : k < l.length) :
    idErr (joinR (whS (l.take k)).1 (whS (l.take k)).2 l[k].1 l[k].2) = .tuple #[.agg #[.int .u64 (whS (l.take (k + 1))).1, .int .i64 (whS (l.take (k + 1))).2], .int .i64 0] := by
  obtain ⟨h1, h2, h3⟩ := whS_inv hw ho hs k (by omega)
  have hx := List.all_eq_true.1 ho _ (List.getElem_mem hk)
  have hv : vldB l[k].1 l[k].2 = true := by unfold okId at hx; rw [Bool.and_eq_true] at hx; exact hx.1
  have hm : sumN (l.take (k + 1)) ≤ sumN l := by
    have := sumN_mono ho (i := k + 1) (j := l.length) (by omega)
    rwa [List.take_length] at this
  have hst := sumN_take l k hk
  have hb : (whS (l.take k)).2 + l[k].2 ≤ 1048576 := by omega
  rw [whS_take hk]
  unfold jnS idErr
  rw [joinR_ok h2 hv hb]
def whE (n : Int) (l : List IdZ) : IdZ := if chkM n l = 0 then whS l else (0, 0)

set_option maxHeartbeats 2000000 in
theorem whole25_any (n : Int) (A : Option Addr) (cap B : Nat) (l : List IdZ) (w : World) (hr : Row w B A (idsC l)) (hw : ∀ x ∈ l, WfI x) (hB : B ≤ w.heap.size) (hm : l.length ≤ 9223372036854775807) :
    Calls Try.prog 39 #[.agg #[.int .i64 n, .slice A l.length cap]] w fun e w' => e = .returned (.tuple #[.agg #[.int .u64 (whE n l).1, .int .i64 (whE n l).2], .int .i64 (chkM n l)]) ∧ Below w.heap.size w w' := by
  have Hw := Lib.hid hw
  have g0 := grew_alloc w (.cells #[.int .i64 n, .slice A l.length cap] 33)
  have h0 := Blk.new w 33 #[.int .i64 n, .slice A l.length cap]
  have g1 := grew_alloc (w.alloc (.cells #[.int .i64 n, .slice A l.length cap] 33)) (.cells #[.int .u64 0, .int .i64 0] 53)
  have h1 := Blk.new (w.alloc (.cells #[.int .i64 n, .slice A l.length cap] 33)) 53 #[.int .u64 0, .int .i64 0]
  have gs : (w.alloc (.cells #[.int .i64 n, .slice A l.length cap] 33)).heap.size = w.heap.size + 1 := by simp
  rw [gs] at h1
  replace h0 := h0.of g1
  have g01 := Grew.trans g0 g1
  have hr1 := hr.below g01 hB
  clear hr hw g0 g1 gs
  have a0 := (h0.cell 0).trans (show _ = some (.int .i64 n) from rfl)
  have a1 := (h0.cell 1).trans (show _ = some (.slice A l.length cap) from rfl)
  have hBw := Nat.le_trans hB g01.size
  have HC := Lib.hid (check25_any n A cap B l _ hr1 hBw hm)
  go_enter Try.func39, Try.ntmps39
  go_wp2_with fail
  generalize (w.alloc (.cells #[.int .i64 n, .slice A l.length cap] 33)).alloc (.cells #[.int .u64 0, .int .i64 0] 53) = w1 at *
  generalize hgc : w.heap.size = gc at *
  have HGc := Lib.hid hgc
  clear hgc
  refine HC.out.mono ?_
  rintro e w2 ⟨rfl, hb⟩
  have b0 := cell_up hb a0
  have b1 := cell_up hb a1
  have h2 := h1.of hb
  have hr2 := hr1.below hb hBw
  have hBw2 := Nat.le_trans hBw hb.size
  have hgw : Below gc w w2 := by have := Grew.trans g01 hb; unfold Grew at this; rwa [HGc.out] at this
  have hlt1 := h2.lt
  have r0 : w2.cell? ⟨gc + 1, 0, none⟩ = some (.int .u64 0) := (h2.cell 0).trans rfl
  have r1 : w2.cell? ⟨gc + 1, 1, none⟩ = some (.int .i64 0) := (h2.cell 1).trans rfl
  have f0 := h2.frozen 0
  have f1 := h2.frozen 1
  clear hb h1 h0 a0 a1 hr1 HC g01
  by_cases hE : chkM n l = 0
  · obtain ⟨hl1, hok, hn1, hn2⟩ := chkM_zero hE
    have HW1 := Lib.hid (show whE n l = whS l by unfold whE; rw [if_pos hE])
    have HInv := Lib.hid (whS_inv Hw.out hok hn2)
    have HJ := Lib.hid (fun k (h : k < l.length) => whS_join Hw.out hok hn2 h)
    have HE := Lib.hid hE
    rw [hE]
    clear hE hn1 hn2
    have g5 := grew_alloc w2 (.cells #[.int .u64 0, .int .i64 0] 53)
    have hB5 := Blk.new w2 53 #[.int .u64 0, .int .i64 0]
    have hz5 : (w2.alloc (.cells #[.int .u64 0, .int .i64 0] 53)).heap.size = w2.heap.size + 1 := by simp
    replace h2 := h2.of g5
    replace hgw := hgw.alloc (by omega) (.cells #[.int .u64 0, .int .i64 0] 53)
    replace hr2 := hr2.below g5 hBw2
    replace b1 := cell_up g5 b1
    clear g5 b0 r0 r1 f0 f1
    go_wp2_with fail
    generalize w2.alloc (.cells #[.int .u64 0, .int .i64 0] 53) = w5 at *
    generalize w2.heap.size = g5 at *
    clear w2
    go_loopw [19] (fun i wr => ∃ k : Nat, k ≤ l.length ∧ i = .int .i64 k ∧ Blk wr g5 53 #[.int .u64 (whS (l.take k)).1, .int .i64 (whS (l.take k)).2] ∧ Ch (At g5) w5 wr) (fun i _ => l.length - (intOf i).toNat)
    case atStart => exact ⟨0, Nat.zero_le _, rfl, hB5, Ch.refl _ _⟩
    case round =>
      obtain ⟨k, hk, rfl, hBk, hch⟩ := hrel
      by_cases hlt : k < l.length
      · have hrk := hr2.ch hch (by omega) (fun i hi => by have h' : i = g5 := hi; omega)
        obtain ⟨ad, hadd, hbl, x0, x1⟩ := ids_at hrk hlt
        have hj := HJ.out k hlt
        obtain ⟨i0, i1, i2⟩ := HInv.out k (by omega)
        have hwx := Hw.out _ (List.getElem_mem hlt)
        obtain ⟨v0, v1, v2, v3⟩ := vldB_iff.1 i1
        obtain ⟨⟨y0, y1⟩, y2, y3⟩ := hwx
        subst hadd
        have HN := Lib.hid (show Blk wr g5 53 #[.int .u64 (whS (l.take k)).1, .int .i64 (whS (l.take k)).2] from hBk)
        clear i1 i2 v3
        generalize (whS (l.take k)).1 = s at *
        generalize (whS (l.take k)).2 = m at *
        generalize hs' : (whS (l.take (k + 1))).1 = s' at *
        generalize hm' : (whS (l.take (k + 1))).2 = m' at *
        have HS' := Lib.hid hs'
        have HM' := Lib.hid hm'
        clear hs' hm'
        generalize l[k] = x at *
        obtain ⟨x1', x2'⟩ := x
        simp only at hj x0 x1 y0 y1 y2 y3
        have HJk := Lib.hid hj
        have gN := grew_alloc wr (.cells #[.int .u64 x1', .int .i64 x2'] 53)
        have hN := Blk.new wr 53 #[.int .u64 x1', .int .i64 x2']
        have hBN := hBk.of gN
        have n0 := (hN.cell 0).trans (show _ = some (.int .u64 x1') from rfl)
        have n1 := (hN.cell 1).trans (show _ = some (.int .i64 x2') from rfl)
        have p0 := (hBN.cell 0).trans (show _ = some (.int .u64 s) from rfl)
        have p1 := (hBN.cell 1).trans (show _ = some (.int .i64 m) from rfl)
        clear hj hBk HN
        go_wp2_with fail
        refine (join_any s m x1' x2' i0 y0 (by omega) y2 _).mono ?_
        rintro e w8 ⟨rfl, hb8⟩
        rw [HJk.out]
        have hg8 : Grew wr w8 := Grew.trans gN hb8
        have hB8 := hBN.of hb8
        have g9 := grew_alloc w8 (.cells #[.int .u64 s', .int .i64 m'] 53)
        have hJ := Blk.new w8 53 #[.int .u64 s', .int .i64 m']
        have hB9 := hB8.of g9
        have q0 := (hJ.cell 0).trans (show _ = some (.int .u64 s') from rfl)
        have q1 := (hJ.cell 1).trans (show _ = some (.int .i64 m') from rfl)
        have p0' := (hB9.cell 0).trans (show _ = some (.int .u64 s) from rfl)
        have p1' := (hB9.cell 1).trans (show _ = some (.int .i64 m) from rfl)
        have fr0 := hB9.frozen 0
        have fr1 := hB9.frozen 1
        have hg9 := hg8.trans g9
        clear gN hN hBN n0 n1 p0 p1 hb8 hg8 hB8 g9 hJ hrk x0 x1
        go_wp2_with fail
        generalize w8.alloc (.cells #[.int .u64 s', .int .i64 m'] 53) = w9 at *
        go_roundw
        case rel =>
          refine ⟨k + 1, by omega, by go_num, ?_, ?_⟩
          · rw [HS'.out, HM'.out]
            exact (hB9.set_ 0 (.int .u64 s')).set_ 1 (.int .i64 m')
          · exact (hch.next hg9).trans (((Ch.refl (At g5) w9).set_at 0 _).set_at 1 _)
        case measure => simp [intOf]; omega
      · obtain rfl : k = l.length := by omega
        rw [List.take_length] at hBk
        have hR := h2.ch hch (by show ¬ gc + 1 = g5; omega)
        have p0 := (hBk.cell 0).trans (show _ = some (.int .u64 (whS l).1) from rfl)
        have p1 := (hBk.cell 1).trans (show _ = some (.int .i64 (whS l).2) from rfl)
        have r0 : wr.cell? ⟨gc + 1, 0, none⟩ = some (.int .u64 0) := (hR.cell 0).trans rfl
        have r1 : wr.cell? ⟨gc + 1, 1, none⟩ = some (.int .i64 0) := (hR.cell 1).trans rfl
        have f0 := hR.frozen 0
        have f1 := hR.frozen 1
        have hRl := hR.lt
        go_wp2_with fail
        have hk4 := ((Ch.refl (At (gc + 1)) wr).set_at 0 (.int .u64 (whS l).1)).set_at 1 (.int .i64 (whS l).2)
        have h1 : Below gc w wr := Below.trans (B := gc) hgw (hch.below (by omega) (fun i hi => by have h' : i = g5 := hi; omega))
        refine bodyPost_ret (v := .tuple #[.agg #[.int .u64 (whS l).1, .int .i64 (whS l).2], .int .i64 0]) ?_ rfl ⟨by rw [HE.out, HW1.out], ?_⟩
        · simp [results, Try.results39, go_sem, r0, r1]
        · rw [HGc.out]; exact Below.trans (B := gc) h1 (hk4.below (by have := Below.size h1; omega) (fun i hi => by have h' : i = gc + 1 := hi; omega))
  · have HW1 := Lib.hid (show whE n l = (0, 0) by unfold whE; rw [if_neg hE])
    go_wp2_with fail
    have hk4 := ((Ch.refl (At (gc + 1)) w2).set_at 0 (.int .u64 0)).set_at 1 (.int .i64 0)
    refine bodyPost_ret (v := .tuple #[.agg #[.int .u64 0, .int .i64 0], .int .i64 (chkM n l)]) ?_ rfl ⟨by rw [HW1.out], ?_⟩
    · simp [results, Try.results39, go_sem, r0, r1]
    · rw [HGc.out]; exact Below.trans (B := gc) hgw (hk4.below (by have := Below.size hgw; omega) (fun i hi => by have h' : i = gc + 1 := hi; omega))

end Go.Proofs.Ytpoiejgoongllaa
