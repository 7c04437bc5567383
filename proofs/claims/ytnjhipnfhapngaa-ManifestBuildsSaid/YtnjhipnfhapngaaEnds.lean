/-
  chunker.Ends.
-/
import Derived.Test.YtnjhipnfhapngaaScanPush
import Derived.Test.YtnjhipnfhapngaaSum
namespace Go.Proofs.Ytnjhipnfhapngaa
set_option linter.unusedVariables false
set_option linter.unusedSimpArgs false
set_option linter.unnecessarySimpa false
open Go.RowKit
attribute [local go_sem ↓] Go.wp_at_zero Go.wp_at_succ

theorem scanPush_yes {s g : Nat} {c : CutZ} {T : List Int} {L : Nat} {b : Int} {w : World} (h : stopT c (T ++ [b]) (L + 1) = true) (hS : Scn w s g c T L) (hL : L ≤ 1152921504606846976) (b0 : 0 ≤ b) (b1 : b ≤ 255) :
    Calls Try.prog 75 #[.pointer (some ⟨s, 0, none⟩), .int .u8 b] w fun e w' => e = .returned (.bool true) ∧ Scn w' s g c (T ++ [b]) 0 ∧ Ch (At2 s g) w w' :=
  (scanPush_any s g c T L b w hS hL b0 b1).mono fun e w' k => by
    obtain ⟨h1, h2, h3⟩ := k
    rw [h] at h1 h2
    exact ⟨h1, h2, h3⟩
theorem scanPush_no {s g : Nat} {c : CutZ} {T : List Int} {L : Nat} {b : Int} {w : World} (h : stopT c (T ++ [b]) (L + 1) = false) (hS : Scn w s g c T L) (hL : L ≤ 1152921504606846976) (b0 : 0 ≤ b) (b1 : b ≤ 255) :
    Calls Try.prog 75 #[.pointer (some ⟨s, 0, none⟩), .int .u8 b] w fun e w' => e = .returned (.bool false) ∧ Scn w' s g c (T ++ [b]) (L + 1) ∧ Ch (At2 s g) w w' :=
  (scanPush_any s g c T L b w hS hL b0 b1).mono fun e w' k => by
    obtain ⟨h1, h2, h3⟩ := k
    rw [h] at h1 h2
    exact ⟨h1, h2, h3⟩

/-- the chunks ls of zs are complete among the first k bytes; no other one is -/
structure ScanZ (c : CutZ) (zs : List Int) (k : Nat) (ls : List Nat) : Prop where
  le : ls.sum ≤ k
  hi : k ≤ zs.length
  lens : lensZ c zs = ls ++ lensZ c (zs.drop ls.sum)
  none : nxtL c ((zs.take k).drop ls.sum) = none
theorem ScanZ.zero {c : CutZ} {zs : List Int} : ScanZ c zs 0 [] := ⟨Nat.le_refl _, Nat.zero_le _, rfl, by simp [nxtL_nil]⟩
theorem scan_stop {c : CutZ} (ok : c.Ok) {zs : List Int} {k s : Nat} (hk : k < zs.length) (hs : s ≤ k) : stopT c (zs.take k ++ [zs[k]]) (k - s + 1) = endL c ((zs.take k).drop s ++ [zs[k]]) (((zs.take k).drop s).length + 1) := by
  have hl : ((zs.take k).drop s).length = k - s := by rw [List.length_drop, List.length_take]; omega
  have h := stop_chunk ok (zs.take s) ((zs.take k).drop s ++ [zs[k]])
  rw [List.length_append, List.length_singleton, hl] at h
  unfold stopT
  rw [hl, ← h, ← List.append_assoc]
  congr 4
  have := List.take_append_drop s (zs.take k)
  rw [List.take_take, Nat.min_eq_left hs] at this
  exact this.symm
theorem ScanZ.no {c : CutZ} (ok : c.Ok) {zs : List Int} {k : Nat} {ls : List Nat} (h : ScanZ c zs k ls) (hk : k < zs.length) (hst : stopT c (zs.take k ++ [zs[k]]) (k - ls.sum + 1) = false) : ScanZ c zs (k + 1) ls := by
  refine ⟨by have := h.le; omega, hk, h.lens, ?_⟩
  rw [scan_stop ok hk h.le] at hst
  rw [List.take_succ_eq_append_getElem hk, List.drop_append_of_le_length (by rw [List.length_take]; have := h.le; omega), nxtL_snoc h.none, hst]
  rfl
theorem ScanZ.yes {c : CutZ} (ok : c.Ok) {zs : List Int} {k : Nat} {ls : List Nat} (h : ScanZ c zs k ls) (hk : k < zs.length) (hst : stopT c (zs.take k ++ [zs[k]]) (k - ls.sum + 1) = true) : ScanZ c zs (k + 1) (ls ++ [k + 1 - ls.sum]) := by
  have hle := h.le
  have hl : ((zs.take k).drop ls.sum).length = k - ls.sum := by rw [List.length_drop, List.length_take]; omega
  have hsum : (ls ++ [k + 1 - ls.sum]).sum = k + 1 := by rw [List.sum_append]; simp; omega
  rw [scan_stop ok hk hle] at hst
  have hn := nxtL_snoc (b := zs[k]) h.none
  rw [hst, if_pos rfl, hl] at hn
  have hd : zs.drop ls.sum = ((zs.take k).drop ls.sum ++ [zs[k]]) ++ zs.drop (k + 1) := by
    have h1 := List.take_append_drop (k + 1) zs
    have h2 : (zs.take (k + 1)).drop ls.sum = (zs.take k).drop ls.sum ++ [zs[k]] := by
      rw [List.take_succ_eq_append_getElem hk, List.drop_append_of_le_length (by rw [List.length_take]; omega)]
    rw [← h2, ← List.drop_append_of_le_length (by rw [List.length_take]; omega), h1]
  have hn2 : nxtL c (zs.drop ls.sum) = some (k - ls.sum + 1) := by rw [hd]; exact nxtL_append hn
  refine ⟨by omega, hk, ?_, ?_⟩
  · rw [hsum, List.append_assoc, h.lens, lensZ_some ok hn2, List.drop_drop, show ls.sum + (k - ls.sum + 1) = k + 1 by omega, show k - ls.sum + 1 = k + 1 - ls.sum by omega]
    rfl
  · rw [hsum, List.drop_eq_nil_of_le (by rw [List.length_take]; omega)]
    exact nxtL_nil
theorem psums_snoc (ls : List Nat) (k : Nat) (h : ls.sum ≤ k) : psums 0 (ls ++ [k + 1 - ls.sum]) = psums 0 ls ++ [k + 1] := by
  rw [psums_append]
  simp only [psums, Nat.zero_add]
  rw [show ls.sum + (k + 1 - ls.sum) = k + 1 by omega]
theorem ScanZ.done {c : CutZ} {zs : List Int} {ls : List Nat} (h : ScanZ c zs zs.length ls) : endsZ c zs = psums 0 ls ++ (if ls.sum < zs.length then [zs.length] else []) := by
  have hle := h.le
  have hn := h.none
  rw [List.take_length] at hn
  unfold endsZ
  rw [h.lens]
  split
  · rename_i hlt
    have hne : zs.drop ls.sum ≠ [] := fun e => by have := congrArg List.length e; rw [List.length_drop] at this; simp at this; omega
    rw [lensZ_none hne hn, psums_append, List.length_drop]
    simp only [psums, Nat.zero_add]
    rw [show ls.sum + (zs.length - ls.sum) = zs.length by omega]
  · rw [List.drop_eq_nil_of_le (by omega), lensZ_nil]; simp
theorem ScanZ.count {c : CutZ} (ok : c.Ok) {zs : List Int} {k : Nat} {ls : List Nat} (h : ScanZ c zs k ls) : ls.length ≤ k := by
  have hp : ∀ n ∈ ls, 1 ≤ n := fun n hn => ((lensZ_pos ok zs) n (by rw [h.lens]; exact List.mem_append_left _ hn)).1
  have hle := h.le
  clear h
  have : ls.length ≤ ls.sum := by
    clear hle
    induction ls with
    | nil => simp
    | cons n ns ih =>
      have h1 := hp n (by simp)
      have h2 := ih (fun m hm => hp m (by simp [hm]))
      simp only [List.length_cons, List.sum_cons]; omega
  omega

theorem elem_int : Elem Try.prog 22 3 1 8 := elem_mk (z := .int .i64 0) Try.underlying22 (by kernel_rfl) rfl (by omega)
/-- numbers as cells -/
def natV (l : List Nat) : List Value := l.map fun (n : Nat) => Value.int .i64 (n : Int)
theorem natV_length (l : List Nat) : (natV l).length = l.length := by simp [natV]
theorem natV_append (l m : List Nat) : natV (l ++ m) = natV l ++ natV m := by simp [natV]

set_option maxHeartbeats 1000000 in
theorem ends_bad (mn mx wn m : Int) (A : Option Addr) (len cap : Nat) (w : World) (h : cutErr mn mx wn ≠ 0) :
    Calls Try.prog 54 #[cutV mn mx wn m, .slice A len cap] w fun e w' => e = .returned (.tuple #[.slice none 0 0, .int .i64 240]) ∧ Below w.heap.size w w' := by
  have HN := Lib.hid (fun W => newScanner_no mn mx wn m W h)
  clear h
  unfold cutV at HN ⊢
  go_enter Try.func54, Try.ntmps54
  go_wp2_with fail
  refine (HN.out _).mono ?_
  rintro e w1 ⟨rfl, hb⟩
  go_wp2_with fail
  go_ret2
  exact ⟨rfl, Grew.trans (grew_alloc _ _) hb⟩

set_option maxHeartbeats 1000000 in
theorem ends_any (c : CutZ) (ok : c.Ok) (A : Option Addr) (cap B : Nat) (zs : List Int) (w : World) (hr : Row w B A (zs.map (.int .u8))) (hB : B ≤ w.heap.size) (hz : ∀ z ∈ zs, 0 ≤ z ∧ z ≤ 255) (hm : zs.length ≤ 1048576) :
    Calls Try.prog 54 #[cutV c.mn c.mx c.wn c.mask, .slice A zs.length cap] w fun e w' => ∃ A' cap', e = .returned (.tuple #[.slice A' (endsZ c zs).length cap', .int .i64 0]) ∧
      w'.ownsRow w.heap.size 3 1 (.slice A' (endsZ c zs).length cap') (endsZ c zs).length (natV (endsZ c zs)) ∧ Below w.heap.size w w' := by
  have Hz := Lib.hid hz
  clear hz
  have HN := Lib.hid (fun W => newScanner_ok c ok W)
  unfold cutV at HN ⊢
  go_enter Try.func54, Try.ntmps54
  go_wp2_with fail
  refine (HN.out _).mono ?_
  rintro e w1 ⟨s, g, rfl, hS, hs, hg, hb⟩
  clear HN
  have hb1 : Below w.heap.size w w1 := Grew.trans (grew_alloc w _) hb
  have hs' : w.heap.size ≤ s := by have := hs; simp at this; omega
  have hg' : w.heap.size ≤ g := by have := hg; simp at this; omega
  clear hb hs hg
  have g1 : ¬ (1048576 < (zs.length : Int)) := by omega
  go_wp2_with fail
  go_loopw [8, 24] (fun v i wr => (∃ k : Nat, k ≤ zs.length ∧ i = .int .i64 k ∧ ∃ ls A' cp, ScanZ c zs k ls ∧ v = .slice A' ls.length cp ∧ wr.ownsRow w.heap.size 3 1 (.slice A' ls.length cp) ls.length (natV (psums 0 ls)) ∧ Scn wr s g c (zs.take k) (k - ls.sum)) ∧ Below w.heap.size w wr) (fun _ i _ => zs.length - (intOf i).toNat)
  case atStart => exact ⟨⟨0, Nat.zero_le _, rfl, [], none, 0, ScanZ.zero, rfl, World.ownsRow_nil _ _ _ _, hS⟩, hb1⟩
  case round =>
    clear hS hb1
    obtain ⟨⟨k, hk, rfl, ls, A1, c1, hZ, rfl, hown, hS⟩, hb⟩ := hrel
    have hbs := hb.size
    have hle := hZ.le
    have hcount := hZ.count ok
    by_cases hlt : k < zs.length
    · obtain ⟨ad, rfl, hbl, hc⟩ := (hr.below hb hB).at_ (k := k) (by simpa using hlt)
      rw [List.getElem_map] at hc
      have hbd := elem_bd Hz.out hlt
      have hos : (Value.slice A1 ls.length c1).ownBlock ≠ some s := own_blk_ne hown hS.blk (by decide)
      have hog : (Value.slice A1 ls.length c1).ownBlock ≠ some g := hS.rol.ne_own hown (by decide)
      have HT := Lib.hid (List.take_succ_eq_append_getElem hlt)
      by_cases hst : stopT c (zs.take k ++ [zs[k]]) (k - ls.sum + 1) = true
      · have HC := Lib.hid (scanPush_yes hst hS (by omega) hbd.1 hbd.2)
        have HZ := Lib.hid (hZ.yes ok hlt hst)
        have HP := Lib.hid (psums_snoc ls k hle)
        clear hst hS hZ hbd
        rw [← HT.out] at HC
        go_wp2_with fail
        refine HC.out.mono ?_
        clear HC
        rintro e w2 ⟨rfl, hS2, hch⟩
        have hown2 := own_ch hown hch (fun b hb' => by rintro (h | h) <;> subst h <;> contradiction)
        have hb2 : Below w.heap.size w w2 := Below.trans (B := w.heap.size) hb (hch.below hbs (fun i hi => by rcases hi with h | h <;> rw [h] <;> assumption))
        have hbs2 := hb2.size
        clear hown hch hb hbs
        go_wp2_with (at_builtin; refine wpList_append_row rfl (.tmp 32) (.tmp 35) rfl w.heap.size elem_int (by rfl) (hown2.alloc _) _ (by rfl) (by rfl) (Blk.row (Blk.new w2 3 #[.int .i64 ((k : Int) + 1)])) (by simp [Value.oneCell']) (by unfold maxLen; omega) (by omega) (by simp; omega) ?_; intro A3 c3 w3 hown3 hg3 hwh3)
        have hga := grew_alloc w2 (.cells #[.int .i64 ((k : Int) + 1)] 3)
        have hch3 := Ch.of_own hg3
        have hS3 := (hS2.of hga).ch hch3 hos hog
        have hb3 : Below w.heap.size w w3 := Below.trans (B := w.heap.size) (Below.trans (B := w.heap.size) hb2 (hga.mono hbs2)) (below_grown hg3 (by simp; omega) (own_lt hown2))
        have hsum : (ls ++ [k + 1 - ls.sum]).sum = k + 1 := by rw [List.sum_append]; simp; omega
        have HSu := Lib.hid hsum
        clear hsum hS2 hown2 hb2 hga hch3 hg3 hwh3 hbs2
        go_wp2_with fail
        go_roundw
        case rel =>
          refine ⟨⟨k + 1, by omega, by go_num, ls ++ [k + 1 - ls.sum], A3, c3, HZ.out, by rw [List.length_append]; rfl, ?_, ?_⟩, hb3⟩
          · rw [HP.out, natV_append, List.length_append]; exact hown3
          · rw [HSu.out, Nat.sub_self]; exact hS3
        case measure => simp [intOf]; omega
      · have hst' : stopT c (zs.take k ++ [zs[k]]) (k - ls.sum + 1) = false := by simpa using hst
        have HC := Lib.hid (scanPush_no hst' hS (by omega) hbd.1 hbd.2)
        have HZ := Lib.hid (hZ.no ok hlt hst')
        clear hst hst' hS hZ hbd
        rw [← HT.out] at HC
        go_wp2_with fail
        refine HC.out.mono ?_
        clear HC
        rintro e w2 ⟨rfl, hS2, hch⟩
        have hown2 := own_ch hown hch (fun b hb' => by rintro (h | h) <;> subst h <;> contradiction)
        have hb2 : Below w.heap.size w w2 := Below.trans (B := w.heap.size) hb (hch.below hbs (fun i hi => by rcases hi with h | h <;> rw [h] <;> assumption))
        clear hown hch hb hbs
        go_wp2_with fail
        go_roundw
        case rel => exact ⟨⟨k + 1, by omega, by go_num, ls, A1, c1, HZ.out, rfl, hown2, by rw [show k + 1 - ls.sum = k - ls.sum + 1 by omega]; exact hS2⟩, hb2⟩
        case measure => simp [intOf]; omega
    · have e : k = zs.length := by omega
      subst e
      have HD := Lib.hid hZ.done
      obtain ⟨_, _, _, _, c5, _⟩ := hS.cells
      clear hZ hS
      by_cases hl : ls.sum < zs.length
      · have g2 : (0 : Int) < ((zs.length - ls.sum : Nat) : Int) := by omega
        go_wp2_with (at_builtin; refine wpList_append_row rfl (.tmp 43) (.tmp 46) rfl w.heap.size elem_int (by rfl) (hown.alloc _) _ (by rfl) (by rfl) (Blk.row (Blk.new wr 3 #[.int .i64 (zs.length : Int)])) (by simp [Value.oneCell']) (by unfold maxLen; omega) (by omega) (by simp; omega) ?_; intro A3 c3 w3 hown3 hg3 hwh3)
        have hb3 : Below w.heap.size w w3 := Below.trans (B := w.heap.size) (Below.trans (B := w.heap.size) hb ((grew_alloc wr _).mono hbs)) (below_grown hg3 (by simp; omega) (own_lt hown))
        go_wp2_with fail
        go_ret2
        have he : endsZ c zs = psums 0 ls ++ [zs.length] := by rw [HD.out, if_pos hl]
        have hlen : (endsZ c zs).length = ls.length + 1 := by rw [he, List.length_append, psums_length]; rfl
        rw [hlen]
        refine ⟨A3, c3, rfl, ?_, hb3⟩
        rw [he, natV_append]
        exact hown3
      · have g2 : ((zs.length - ls.sum : Nat) : Int) ≤ 0 := by omega
        go_wp2_with fail
        go_ret2
        have he : endsZ c zs = psums 0 ls := by rw [HD.out, if_neg hl]; simp
        have hlen : (endsZ c zs).length = ls.length := by rw [he, psums_length]
        rw [hlen, he]
        exact ⟨A1, c1, rfl, hown, hb⟩

end Go.Proofs.Ytnjhipnfhapngaa
