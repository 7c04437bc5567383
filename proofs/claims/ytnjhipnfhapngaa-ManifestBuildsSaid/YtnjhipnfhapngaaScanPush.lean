/-
  chunker.(*scanner).push.
-/
import Derived.Test.YtnjhipnfhapngaaScan
namespace Go.Proofs.Ytnjhipnfhapngaa
set_option linter.unusedVariables false
set_option linter.unusedSimpArgs false
set_option linter.unnecessarySimpa false
open Go.RowKit
attribute [local go_sem ↓] Go.wp_at_zero Go.wp_at_succ

/-- is the chunk complete behind the byte that makes T the bytes up to now and L its length? -/
def stopT (c : CutZ) (T : List Int) (L : Nat) : Bool := stopZ c L (sumZ (lastN c.wn T))

/-- what push leaves: T and L with the new byte -/
def ScanRes (s g : Nat) (c : CutZ) (T : List Int) (L : Nat) (w : World) (e : Ending) (w' : World) : Prop :=
  e = .returned (.bool (stopT c T L)) ∧ Scn w' s g c T (if stopT c T L = true then 0 else L) ∧ Ch (At2 s g) w w'
theorem ScanRes.no {s g : Nat} {c : CutZ} {T : List Int} {L : Nat} {w w' : World} {e : Ending} (h : stopT c T L = false) (he : e = .returned (.bool false)) (hs : Scn w' s g c T L) (hc : Ch (At2 s g) w w') : ScanRes s g c T L w e w' := by
  unfold ScanRes; rw [h]; exact ⟨he, hs, hc⟩
theorem ScanRes.yes {s g : Nat} {c : CutZ} {T : List Int} {L : Nat} {w w' : World} {e : Ending} (h : stopT c T L = true) (he : e = .returned (.bool true)) (hs : Scn w' s g c T 0) (hc : Ch (At2 s g) w w') : ScanRes s g c T L w e w' := by
  unfold ScanRes; rw [h]; exact ⟨he, hs, hc⟩
theorem stopT_eq (mn mx wn : Nat) (mask : Int) (T : List Int) (L : Nat) : stopT ⟨mn, mx, wn, mask⟩ T L = (decide (mn ≤ L) && (decide (mx ≤ L) || maskZ mask (sumZ (lastN wn T)))) := rfl

set_option maxHeartbeats 1000000 in
theorem scanPush_any (s g : Nat) (c : CutZ) (T : List Int) (L : Nat) (b : Int) (w : World) (hS : Scn w s g c T L) (hL : L ≤ 1152921504606846976) (b0 : 0 ≤ b) (b1 : b ≤ 255) :
    Calls Try.prog 75 #[.pointer (some ⟨s, 0, none⟩), .int .u8 b] w (ScanRes s g c (T ++ [b]) (L + 1) w) := by
  obtain ⟨mn, mx, wn, mask⟩ := c
  have hne := hS.ne
  obtain ⟨c0, c1, c3, c4, c5, f5⟩ := hS.cells
  have HP := Lib.hid (fun W (h : Rol W g wn (lastN wn T)) => push_any g wn (lastN wn T) b W h b0 b1)
  simp only [lastN_push] at HP
  have HSt := Lib.hid (stopT_eq mn mx wn mask (T ++ [b]) (L + 1))
  go_enter Try.func75, Try.ntmps75
  go_wp2_with fail
  refine (HP.out _ hS.rol).mono ?_
  rintro e w1 ⟨rfl, hR, hch⟩
  have k1 : Ch (At2 s g) w w1 := hch.mono (fun k _ h => .inr h)
  have hB := hS.blk.ch hch hne
  replace c0 := hch.cell c0 hne
  replace c1 := hch.cell c1 hne
  replace c3 := hch.cell c3 hne
  replace c4 := hch.cell c4 hne
  replace c5 := hch.cell c5 hne
  replace f5 : w1.frozen? _ = _ := (hch.frozenEq (p := ⟨s, 5, none⟩) hS.blk.lt hne).trans f5
  clear hS hch HP
  go_wp2_with fail
  have hB2 := hB.set_ 5 (.int .i64 (↑L + 1))
  have hch2 := (Ch.refl (At s) w1).set_at 5 (.int .i64 (↑L + 1))
  have k2 : Ch (At2 s g) w (w1.setCell ⟨s, 5, none⟩ (.int .i64 (↑L + 1))) := k1.trans (hch2.mono (fun k _ h => .inl h))
  replace hR := hR.ch hch2 (Ne.symm hne)
  generalize w1.setCell ⟨s, 5, none⟩ (.int .i64 (↑L + 1)) = w2 at *
  have hB3 : Blk w2 s 118 (scA ⟨mn, mx, wn, mask⟩ g ((L : Int) + 1)) := hB2
  have hS2 : Scn w2 s g ⟨mn, mx, wn, mask⟩ (T ++ [b]) (L + 1) := ⟨hB3, hR⟩
  clear hB hB2 hB3 hR k1 hch2 c0 c1 c3 c4 c5 f5
  obtain ⟨c0, c1, c3, c4, c5, f5⟩ := hS2.cells
  simp only at c0 c1 c3
  have c5' : w2.cell? ⟨s, 5, none⟩ = some (.int .i64 ((L : Int) + 1)) := c5
  clear c5 c4
  generalize sumZ (lastN wn (T ++ [b])) = sm at *
  by_cases h1 : L + 1 < mn
  · have g1 : decide ((L : Int) + 1 < mn) = true := by simp; omega
    have HSt' := Lib.hid (show stopT ⟨mn, mx, wn, mask⟩ (T ++ [b]) (L + 1) = false by rw [HSt.out, decide_eq_false (by omega)]; rfl)
    clear HSt
    refine wp_region_g 31 (by kernel_rfl) ?_
    refine AllC.head 0 31 (fuel := 1) (by first | exact fun h k => Grew.trans h k | exact fun h k => cls_grew h k) (grew_drew _) (by rfl) (by kernel_rfl) ?_
    simp only [List.take_succ_cons, List.take_zero, List.drop_succ_cons, List.drop_zero]
    repeat (first
      | (refine HeadC.val (by rfl) ?_
         apply Exists.intro
         refine ⟨fun w' hw' => ?_, ?_⟩
         · (have hf_0 := cell_up hw' c0; have hf_1 := cell_up hw' c5'; (go_simp) <;> (try go_ints) <;> with_reducible rfl)
         try simp only [Act.put, List.setIfInBounds_toArray, List.set_cons_zero, List.set_cons_succ])
      | (refine HeadC.shut (by rfl) ?_
         try simp only [Act.put, List.setIfInBounds_toArray, List.set_cons_zero, List.set_cons_succ]))
    refine HeadC.nil ?_
    refine AllC.tail 31 (by rfl) (by kernel_rfl) ?_
    intro wt hwt
    simp only [List.drop_succ_cons, List.drop_zero]
    go_wp2_with fail
    go_ret
    have hg1 : Grew w2 wt := (grew_drew _).trans hwt
    exact ScanRes.no HSt'.out rfl (hS2.of hg1) (k2.next hg1)
  · have g1 : decide ((L : Int) + 1 < mn) = false := by simp; omega
    by_cases h2 : L + 1 < mx
    · have g2 : decide ((L : Int) + 1 < mx) = true := by simp; omega
      by_cases h3 : bits .and .u64 mask sm = 0
      · have g3 : (bits .and .u64 mask sm != 0) = false := by rw [h3]; rfl
        have HSt' := Lib.hid (show stopT ⟨mn, mx, wn, mask⟩ (T ++ [b]) (L + 1) = true by rw [HSt.out, decide_eq_true (by omega)]; unfold maskZ; rw [decide_eq_true h3]; simp)
        clear HSt h3
        refine wp_region_g 31 (by kernel_rfl) ?_
        refine AllC.head 0 31 (fuel := 1) (by first | exact fun h k => Grew.trans h k | exact fun h k => cls_grew h k) (grew_drew _) (by rfl) (by kernel_rfl) ?_
        simp only [List.take_succ_cons, List.take_zero, List.drop_succ_cons, List.drop_zero]
        repeat (first
          | (refine HeadC.val (by rfl) ?_
             apply Exists.intro
             refine ⟨fun w' hw' => ?_, ?_⟩
             · (have hf_0 := cell_up hw' c0; have hf_1 := cell_up hw' c1; have hf_2 := cell_up hw' c3; have hf_3 := cell_up hw' c5'; (go_simp) <;> (try go_ints) <;> with_reducible rfl)
             try simp only [Act.put, List.setIfInBounds_toArray, List.set_cons_zero, List.set_cons_succ])
          | (refine HeadC.shut (by rfl) ?_
             try simp only [Act.put, List.setIfInBounds_toArray, List.set_cons_zero, List.set_cons_succ]))
        refine HeadC.nil ?_
        refine AllC.tail 31 (by rfl) (by kernel_rfl) ?_
        intro wt hwt
        simp only [List.drop_succ_cons, List.drop_zero]
        have hg1 : Grew w2 wt := (grew_drew _).trans hwt
        have hSt := hS2.of hg1
        obtain ⟨_, _, _, _, d5, e5⟩ := hSt.cells
        go_wp2_with fail
        go_ret
        exact ScanRes.yes HSt'.out rfl ⟨hSt.blk.set_ 5 (.int .i64 0), hSt.rol.ch ((Ch.refl (At s) wt).set_at 5 (.int .i64 0)) (Ne.symm hne)⟩ ((k2.next hg1).setCell (p := ⟨s, 5, none⟩) (.inr (.inl rfl)) _)
      · have g3 : (bits .and .u64 mask sm != 0) = true := by rw [bne_iff_ne]; exact h3
        have HSt' := Lib.hid (show stopT ⟨mn, mx, wn, mask⟩ (T ++ [b]) (L + 1) = false by rw [HSt.out, decide_eq_true (by omega)]; unfold maskZ; rw [decide_eq_false h3, decide_eq_false (by omega)]; rfl)
        clear HSt h3
        refine wp_region_g 31 (by kernel_rfl) ?_
        refine AllC.head 0 31 (fuel := 1) (by first | exact fun h k => Grew.trans h k | exact fun h k => cls_grew h k) (grew_drew _) (by rfl) (by kernel_rfl) ?_
        simp only [List.take_succ_cons, List.take_zero, List.drop_succ_cons, List.drop_zero]
        repeat (first
          | (refine HeadC.val (by rfl) ?_
             apply Exists.intro
             refine ⟨fun w' hw' => ?_, ?_⟩
             · (have hf_0 := cell_up hw' c0; have hf_1 := cell_up hw' c1; have hf_2 := cell_up hw' c3; have hf_3 := cell_up hw' c5'; (go_simp) <;> (try go_ints) <;> with_reducible rfl)
             try simp only [Act.put, List.setIfInBounds_toArray, List.set_cons_zero, List.set_cons_succ])
          | (refine HeadC.shut (by rfl) ?_
             try simp only [Act.put, List.setIfInBounds_toArray, List.set_cons_zero, List.set_cons_succ]))
        refine HeadC.nil ?_
        refine AllC.tail 31 (by rfl) (by kernel_rfl) ?_
        intro wt hwt
        simp only [List.drop_succ_cons, List.drop_zero]
        go_wp2_with fail
        go_ret
        have hg1 : Grew w2 wt := (grew_drew _).trans hwt
        exact ScanRes.no HSt'.out rfl (hS2.of hg1) (k2.next hg1)
    · have g2 : decide ((L : Int) + 1 < mx) = false := by simp; omega
      have HSt' := Lib.hid (show stopT ⟨mn, mx, wn, mask⟩ (T ++ [b]) (L + 1) = true by rw [HSt.out, decide_eq_true (by omega), decide_eq_true (by omega)]; rfl)
      clear HSt
      refine wp_region_g 31 (by kernel_rfl) ?_
      refine AllC.head 0 31 (fuel := 1) (by first | exact fun h k => Grew.trans h k | exact fun h k => cls_grew h k) (grew_drew _) (by rfl) (by kernel_rfl) ?_
      simp only [List.take_succ_cons, List.take_zero, List.drop_succ_cons, List.drop_zero]
      repeat (first
        | (refine HeadC.val (by rfl) ?_
           apply Exists.intro
           refine ⟨fun w' hw' => ?_, ?_⟩
           · (have hf_0 := cell_up hw' c0; have hf_1 := cell_up hw' c1; have hf_2 := cell_up hw' c5'; (go_simp) <;> (try go_ints) <;> with_reducible rfl)
           try simp only [Act.put, List.setIfInBounds_toArray, List.set_cons_zero, List.set_cons_succ])
        | (refine HeadC.shut (by rfl) ?_
           try simp only [Act.put, List.setIfInBounds_toArray, List.set_cons_zero, List.set_cons_succ]))
      refine HeadC.nil ?_
      refine AllC.tail 31 (by rfl) (by kernel_rfl) ?_
      intro wt hwt
      simp only [List.drop_succ_cons, List.drop_zero]
      have hg1 : Grew w2 wt := (grew_drew _).trans hwt
      have hSt := hS2.of hg1
      obtain ⟨_, _, _, _, d5, e5⟩ := hSt.cells
      go_wp2_with fail
      go_ret
      exact ScanRes.yes HSt'.out rfl ⟨hSt.blk.set_ 5 (.int .i64 0), hSt.rol.ch ((Ch.refl (At s) wt).set_at 5 (.int .i64 0)) (Ne.symm hne)⟩ ((k2.next hg1).setCell (p := ⟨s, 5, none⟩) (.inr (.inl rfl)) _)

end Go.Proofs.Ytnjhipnfhapngaa
