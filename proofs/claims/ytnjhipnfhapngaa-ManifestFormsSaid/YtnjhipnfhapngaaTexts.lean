/-
  Ends, Make24, CutPre, Clone, Split, Texts.
-/
import Derived.Test.YtnjhipnfhapngaaSum
import Derived.Test.YtnjhipnfhapngaaTx
import Derived.Test.YtnjhipnfhapngaaRegC
import Derived.Test.YtnjhipnfhapngaaCutMath
import Derived.Test.YtnjhipnfhapngaaScan
import Derived.Test.YtnjhipnfhapngaaTape
import Derived.ArgAppend
import Derived.Laws.BytesArg
namespace Go.Proofs.Ytnjhipnfhapngaa
/- Ends:
  chunker.Ends.
-/
section
set_option linter.unusedVariables false
set_option linter.unusedSimpArgs false
set_option linter.unnecessarySimpa false
open Go.RowKit
attribute [local go_sem ↓] Go.wp_at_zero Go.wp_at_succ

theorem scanPush_yes {s g : Nat} {c : CutZ} {T : List Int} {L : Nat} {b : Int} {w : World} (h : stopT c (T ++ [b]) (L + 1) = true) (hS : Scn w s g c T L) (hL : L ≤ 1152921504606846976) (b0 : 0 ≤ b) (b1 : b ≤ 255) :
    Calls Try.prog 75 #[.pointer (some ⟨s, 0, none⟩), .int .u8 b] w fun e w' => e = .returned (.bool true) ∧ Scn w' s g c (T ++ [b]) 0 ∧ Ch (At2 s g) w w' :=
  (scanPush_any s g c T L b w hS hL b0 b1).mono fun e w' k => by
    obtain ⟨h1, h2, h3⟩ := k
    rw [h] at h1 h2
    exact ⟨h1, h2, h3⟩
theorem scanPush_no {s g : Nat} {c : CutZ} {T : List Int} {L : Nat} {b : Int} {w : World} (h : stopT c (T ++ [b]) (L + 1) = false) (hS : Scn w s g c T L) (hL : L ≤ 1152921504606846976) (b0 : 0 ≤ b) (b1 : b ≤ 255) :
    Calls Try.prog 75 #[.pointer (some ⟨s, 0, none⟩), .int .u8 b] w fun e w' => e = .returned (.bool false) ∧ Scn w' s g c (T ++ [b]) (L + 1) ∧ Ch (At2 s g) w w' :=
  (scanPush_any s g c T L b w hS hL b0 b1).mono fun e w' k => by
    obtain ⟨h1, h2, h3⟩ := k
    rw [h] at h1 h2
    exact ⟨h1, h2, h3⟩

/-- the chunks ls of zs are complete among the first k bytes; no other one is -/
structure ScanZ (c : CutZ) (zs : List Int) (k : Nat) (ls : List Nat) : Prop where
  le : ls.sum ≤ k
  hi : k ≤ zs.length
  lens : lensZ c zs = ls ++ lensZ c (zs.drop ls.sum)
  none : nxtL c ((zs.take k).drop ls.sum) = none
theorem ScanZ.zero {c : CutZ} {zs : List Int} : ScanZ c zs 0 [] := ⟨Nat.le_refl _, Nat.zero_le _, rfl, by simp [nxtL_nil]⟩
theorem scan_stop {c : CutZ} (ok : c.Ok) {zs : List Int} {k s : Nat} (hk : k < zs.length) (hs : s ≤ k) : stopT c (zs.take k ++ [zs[k]]) (k - s + 1) = endL c ((zs.take k).drop s ++ [zs[k]]) (((zs.take k).drop s).length + 1) := by
  have hl : ((zs.take k).drop s).length = k - s := by rw [List.length_drop, List.length_take]; omega
  have h := stop_chunk ok (zs.take s) ((zs.take k).drop s ++ [zs[k]])
  rw [List.length_append, List.length_singleton, hl] at h
  unfold stopT
  rw [hl, ← h, ← List.append_assoc]
  congr 4
  have := List.take_append_drop s (zs.take k)
  rw [List.take_take, Nat.min_eq_left hs] at this
  exact this.symm
theorem ScanZ.no {c : CutZ} (ok : c.Ok) {zs : List Int} {k : Nat} {ls : List Nat} (h : ScanZ c zs k ls) (hk : k < zs.length) (hst : stopT c (zs.take k ++ [zs[k]]) (k - ls.sum + 1) = false) : ScanZ c zs (k + 1) ls := by
  refine ⟨by have := h.le; omega, hk, h.lens, ?_⟩
  rw [scan_stop ok hk h.le] at hst
  rw [List.take_succ_eq_append_getElem hk, List.drop_append_of_le_length (by rw [List.length_take]; have := h.le; omega), nxtL_snoc h.none, hst]
  rfl
theorem ScanZ.yes {c : CutZ} (ok : c.Ok) {zs : List Int} {k : Nat} {ls : List Nat} (h : ScanZ c zs k ls) (hk : k < zs.length) (hst : stopT c (zs.take k ++ [zs[k]]) (k - ls.sum + 1) = true) : ScanZ c zs (k + 1) (ls ++ [k + 1 - ls.sum]) := by
  have hle := h.le
  have hl : ((zs.take k).drop ls.sum).length = k - ls.sum := by rw [List.length_drop, List.length_take]; omega
  have hsum : (ls ++ [k + 1 - ls.sum]).sum = k + 1 := by rw [List.sum_append]; simp; omega
  rw [scan_stop ok hk hle] at hst
  have hn := nxtL_snoc (b := zs[k]) h.none
  rw [hst, if_pos rfl, hl] at hn
  have hd : zs.drop ls.sum = ((zs.take k).drop ls.sum ++ [zs[k]]) ++ zs.drop (k + 1) := by
    have h1 := List.take_append_drop (k + 1) zs
    have h2 : (zs.take (k + 1)).drop ls.sum = (zs.take k).drop ls.sum ++ [zs[k]] := by
      rw [List.take_succ_eq_append_getElem hk, List.drop_append_of_le_length (by rw [List.length_take]; omega)]
    rw [← h2, ← List.drop_append_of_le_length (by rw [List.length_take]; omega), h1]
  have hn2 : nxtL c (zs.drop ls.sum) = some (k - ls.sum + 1) := by rw [hd]; exact nxtL_append hn
  refine ⟨by omega, hk, ?_, ?_⟩
  · rw [hsum, List.append_assoc, h.lens, lensZ_some ok hn2, List.drop_drop, show ls.sum + (k - ls.sum + 1) = k + 1 by omega, show k - ls.sum + 1 = k + 1 - ls.sum by omega]
    rfl
  · rw [hsum, List.drop_eq_nil_of_le (by rw [List.length_take]; omega)]
    exact nxtL_nil
theorem psums_snoc (ls : List Nat) (k : Nat) (h : ls.sum ≤ k) : psums 0 (ls ++ [k + 1 - ls.sum]) = psums 0 ls ++ [k + 1] := by
  rw [psums_append]
  simp only [psums, Nat.zero_add]
  rw [show ls.sum + (k + 1 - ls.sum) = k + 1 by omega]
theorem ScanZ.done {c : CutZ} {zs : List Int} {ls : List Nat} (h : ScanZ c zs zs.length ls) : endsZ c zs = psums 0 ls ++ (if ls.sum < zs.length then [zs.length] else []) := by
  have hle := h.le
  have hn := h.none
  rw [List.take_length] at hn
  unfold endsZ
  rw [h.lens]
  split
  · rename_i hlt
    have hne : zs.drop ls.sum ≠ [] := fun e => by have := congrArg List.length e; rw [List.length_drop] at this; simp at this; omega
    rw [lensZ_none hne hn, psums_append, List.length_drop]
    simp only [psums, Nat.zero_add]
    rw [show ls.sum + (zs.length - ls.sum) = zs.length by omega]
  · rw [List.drop_eq_nil_of_le (by omega), lensZ_nil]; simp
theorem ScanZ.count {c : CutZ} (ok : c.Ok) {zs : List Int} {k : Nat} {ls : List Nat} (h : ScanZ c zs k ls) : ls.length ≤ k := by
  have hp : ∀ n ∈ ls, 1 ≤ n := fun n hn => ((lensZ_pos ok zs) n (by rw [h.lens]; exact List.mem_append_left _ hn)).1
  have hle := h.le
  clear h
  have : ls.length ≤ ls.sum := by
    clear hle
    induction ls with
    | nil => simp
    | cons n ns ih =>
      have h1 := hp n (by simp)
      have h2 := ih (fun m hm => hp m (by simp [hm]))
      simp only [List.length_cons, List.sum_cons]; omega
  omega

theorem elem_int : Elem Try.prog 22 3 1 8 := elem_mk (z := .int .i64 0) Try.underlying22 (by kernel_rfl) rfl (by omega)
/-- numbers as cells -/
def natV (l : List Nat) : List Value := l.map fun (n : Nat) => Value.int .i64 (n : Int)
theorem natV_length (l : List Nat) : (natV l).length = l.length := by simp [natV]
theorem natV_append (l m : List Nat) : natV (l ++ m) = natV l ++ natV m := by simp [natV]

set_option maxHeartbeats 1000000 in
theorem ends_bad (mn mx wn m : Int) (A : Option Addr) (len cap : Nat) (w : World) (h : cutErr mn mx wn ≠ 0) :
    Calls Try.prog 54 #[cutV mn mx wn m, .slice A len cap] w fun e w' => e = .returned (.tuple #[.slice none 0 0, .int .i64 240]) ∧ Below w.heap.size w w' := by
  have HN := Lib.hid (fun W => newScanner_no mn mx wn m W h)
  clear h
  unfold cutV at HN ⊢
  go_enter Try.func54, Try.ntmps54
  go_wp2_with fail
  refine (HN.out _).mono ?_
  rintro e w1 ⟨rfl, hb⟩
  go_wp2_with fail
  go_ret2
  exact ⟨rfl, Grew.trans (grew_alloc _ _) hb⟩

set_option maxHeartbeats 1000000 in
theorem ends_any (c : CutZ) (ok : c.Ok) (A : Option Addr) (cap B : Nat) (zs : List Int) (w : World) (hr : Row w B A (zs.map (.int .u8))) (hB : B ≤ w.heap.size) (hz : ∀ z ∈ zs, 0 ≤ z ∧ z ≤ 255) (hm : zs.length ≤ 1048576) :
    Calls Try.prog 54 #[cutV c.mn c.mx c.wn c.mask, .slice A zs.length cap] w fun e w' => ∃ A' cap', e = .returned (.tuple #[.slice A' (endsZ c zs).length cap', .int .i64 0]) ∧
      w'.ownsRow w.heap.size 3 1 (.slice A' (endsZ c zs).length cap') (endsZ c zs).length (natV (endsZ c zs)) ∧ Below w.heap.size w w' := by
  have Hz := Lib.hid hz
  clear hz
  have HN := Lib.hid (fun W => newScanner_ok c ok W)
  unfold cutV at HN ⊢
  go_enter Try.func54, Try.ntmps54
  go_wp2_with fail
  refine (HN.out _).mono ?_
  rintro e w1 ⟨s, g, rfl, hS, hs, hg, hb⟩
  clear HN
  have hb1 : Below w.heap.size w w1 := Grew.trans (grew_alloc w _) hb
  have hs' : w.heap.size ≤ s := by have := hs; simp at this; omega
  have hg' : w.heap.size ≤ g := by have := hg; simp at this; omega
  clear hb hs hg
  have g1 : ¬ (1048576 < (zs.length : Int)) := by omega
  go_wp2_with fail
  go_loopw [8, 24] (fun v i wr => (∃ k : Nat, k ≤ zs.length ∧ i = .int .i64 k ∧ ∃ ls A' cp, ScanZ c zs k ls ∧ v = .slice A' ls.length cp ∧ wr.ownsRow w.heap.size 3 1 (.slice A' ls.length cp) ls.length (natV (psums 0 ls)) ∧ Scn wr s g c (zs.take k) (k - ls.sum)) ∧ Below w.heap.size w wr) (fun _ i _ => zs.length - (intOf i).toNat)
  case atStart => exact ⟨⟨0, Nat.zero_le _, rfl, [], none, 0, ScanZ.zero, rfl, World.ownsRow_nil _ _ _ _, hS⟩, hb1⟩
  case round =>
    clear hS hb1
    obtain ⟨⟨k, hk, rfl, ls, A1, c1, hZ, rfl, hown, hS⟩, hb⟩ := hrel
    have hbs := hb.size
    have hle := hZ.le
    have hcount := hZ.count ok
    by_cases hlt : k < zs.length
    · obtain ⟨ad, rfl, hbl, hc⟩ := (hr.below hb hB).at_ (k := k) (by simpa using hlt)
      rw [List.getElem_map] at hc
      have hbd := elem_bd Hz.out hlt
      have hos : (Value.slice A1 ls.length c1).ownBlock ≠ some s := own_blk_ne hown hS.blk (by decide)
      have hog : (Value.slice A1 ls.length c1).ownBlock ≠ some g := hS.rol.ne_own hown (by decide)
      have HT := Lib.hid (List.take_succ_eq_append_getElem hlt)
      by_cases hst : stopT c (zs.take k ++ [zs[k]]) (k - ls.sum + 1) = true
      · have HC := Lib.hid (scanPush_yes hst hS (by omega) hbd.1 hbd.2)
        have HZ := Lib.hid (hZ.yes ok hlt hst)
        have HP := Lib.hid (psums_snoc ls k hle)
        clear hst hS hZ hbd
        rw [← HT.out] at HC
        go_wp2_with fail
        refine HC.out.mono ?_
        clear HC
        rintro e w2 ⟨rfl, hS2, hch⟩
        have hown2 := own_ch hown hch (fun b hb' => by rintro (h | h) <;> subst h <;> contradiction)
        have hb2 : Below w.heap.size w w2 := Below.trans (B := w.heap.size) hb (hch.below hbs (fun i hi => by rcases hi with h | h <;> rw [h] <;> assumption))
        have hbs2 := hb2.size
        clear hown hch hb hbs
        go_wp2_with (at_builtin; refine wpList_append_row rfl (.tmp 32) (.tmp 35) rfl w.heap.size elem_int (by rfl) (hown2.alloc _) _ (by rfl) (by rfl) (Blk.row (Blk.new w2 3 #[.int .i64 ((k : Int) + 1)])) (by simp [Value.oneCell']) (by unfold maxLen; omega) (by omega) (by simp; omega) ?_; intro A3 c3 w3 hown3 hg3 hwh3)
        have hga := grew_alloc w2 (.cells #[.int .i64 ((k : Int) + 1)] 3)
        have hch3 := Ch.of_own hg3
        have hS3 := (hS2.of hga).ch hch3 hos hog
        have hb3 : Below w.heap.size w w3 := Below.trans (B := w.heap.size) (Below.trans (B := w.heap.size) hb2 (hga.mono hbs2)) (below_grown hg3 (by simp; omega) (own_lt hown2))
        have hsum : (ls ++ [k + 1 - ls.sum]).sum = k + 1 := by rw [List.sum_append]; simp; omega
        have HSu := Lib.hid hsum
        clear hsum hS2 hown2 hb2 hga hch3 hg3 hwh3 hbs2
        go_wp2_with fail
        go_roundw
        case rel =>
          refine ⟨⟨k + 1, by omega, by go_num, ls ++ [k + 1 - ls.sum], A3, c3, HZ.out, by rw [List.length_append]; rfl, ?_, ?_⟩, hb3⟩
          · rw [HP.out, natV_append, List.length_append]; exact hown3
          · rw [HSu.out, Nat.sub_self]; exact hS3
        case measure => simp [intOf]; omega
      · have hst' : stopT c (zs.take k ++ [zs[k]]) (k - ls.sum + 1) = false := by simpa using hst
        have HC := Lib.hid (scanPush_no hst' hS (by omega) hbd.1 hbd.2)
        have HZ := Lib.hid (hZ.no ok hlt hst')
        clear hst hst' hS hZ hbd
        rw [← HT.out] at HC
        go_wp2_with fail
        refine HC.out.mono ?_
        clear HC
        rintro e w2 ⟨rfl, hS2, hch⟩
        have hown2 := own_ch hown hch (fun b hb' => by rintro (h | h) <;> subst h <;> contradiction)
        have hb2 : Below w.heap.size w w2 := Below.trans (B := w.heap.size) hb (hch.below hbs (fun i hi => by rcases hi with h | h <;> rw [h] <;> assumption))
        clear hown hch hb hbs
        go_wp2_with fail
        go_roundw
        case rel => exact ⟨⟨k + 1, by omega, by go_num, ls, A1, c1, HZ.out, rfl, hown2, by rw [show k + 1 - ls.sum = k - ls.sum + 1 by omega]; exact hS2⟩, hb2⟩
        case measure => simp [intOf]; omega
    · have e : k = zs.length := by omega
      subst e
      have HD := Lib.hid hZ.done
      obtain ⟨_, _, _, _, c5, _⟩ := hS.cells
      clear hZ hS
      by_cases hl : ls.sum < zs.length
      · have g2 : (0 : Int) < ((zs.length - ls.sum : Nat) : Int) := by omega
        go_wp2_with (at_builtin; refine wpList_append_row rfl (.tmp 43) (.tmp 46) rfl w.heap.size elem_int (by rfl) (hown.alloc _) _ (by rfl) (by rfl) (Blk.row (Blk.new wr 3 #[.int .i64 (zs.length : Int)])) (by simp [Value.oneCell']) (by unfold maxLen; omega) (by omega) (by simp; omega) ?_; intro A3 c3 w3 hown3 hg3 hwh3)
        have hb3 : Below w.heap.size w w3 := Below.trans (B := w.heap.size) (Below.trans (B := w.heap.size) hb ((grew_alloc wr _).mono hbs)) (below_grown hg3 (by simp; omega) (own_lt hown))
        go_wp2_with fail
        go_ret2
        have he : endsZ c zs = psums 0 ls ++ [zs.length] := by rw [HD.out, if_pos hl]
        have hlen : (endsZ c zs).length = ls.length + 1 := by rw [he, List.length_append, psums_length]; rfl
        rw [hlen]
        refine ⟨A3, c3, rfl, ?_, hb3⟩
        rw [he, natV_append]
        exact hown3
      · have g2 : ((zs.length - ls.sum : Nat) : Int) ≤ 0 := by omega
        go_wp2_with fail
        go_ret2
        have he : endsZ c zs = psums 0 ls := by rw [HD.out, if_neg hl]; simp
        have hlen : (endsZ c zs).length = ls.length := by rw [he, psums_length]
        rw [hlen, he]
        exact ⟨A1, c1, rfl, hown, hb⟩
end

/- Make24:
  stockyardlaw24.made, text, ends, known.
-/
section
set_option linter.unusedVariables false
set_option linter.unusedSimpArgs false
set_option linter.unnecessarySimpa false
open Go.RowKit
attribute [local go_sem ↓] Go.wp_at_zero Go.wp_at_succ

/-- small parameters, with a mask of the lowest j bits -/
structure Small (c : CutZ) : Prop where
  ok : c.Ok
  mask : ∃ j : Nat, j < 5 ∧ c.mask = 2 ^ j - 1
def MadeRes (t B M : Nat) (w : World) (e : Ending) (w' : World) : Prop := ∃ c : CutZ, e = .returned (cutV c.mn c.mx c.wn c.mask) ∧ Small c ∧ Tp w' t B (M + 4) ∧ Ch (At t) w w'

/-- a text out of the tape, of at most n bytes -/
def TextRes (t B M n : Nat) (w : World) (e : Ending) (w' : World) : Prop := ∃ (A : Option Addr) (cap : Nat) (zs : List Int), e = .returned (.slice A zs.length cap) ∧ zs.length ≤ n ∧ (∀ z ∈ zs, 0 ≤ z ∧ z ≤ 255) ∧
  w'.ownsRow w.heap.size 5 1 (.slice A zs.length cap) zs.length (zs.map (.int .u8)) ∧ Tp w' t B (M + 2 + n) ∧ Ch (At t) w w'

theorem known24_ends : endsZ ⟨2, 4, 1, 1⟩ [1, 1, 0, 0, 0, 0, 3, 5] = [2, 6, 8] := by decide +kernel
theorem natV_map (l : List Nat) : natV l = (l.map fun n : Nat => (n : Int)).map (.int .i64) := by simp [natV]

end

/- CutPre:
  What the laws of chapter 24 begin with: parameters in a block, rows of boundaries.
-/
section
set_option linter.unusedVariables false
set_option linter.unusedSimpArgs false
set_option linter.unnecessarySimpa false
open Go.RowKit
attribute [local go_sem ↓] Go.wp_at_zero Go.wp_at_succ

/-- block g holds the parameters -/
def CutAt (w : World) (g : Nat) (c : CutZ) : Prop := Blk w g 83 #[.int .i64 c.mn, .int .i64 c.mx, .int .i64 c.wn, .int .u64 c.mask]
theorem CutAt.new (w : World) (c : CutZ) : CutAt (w.alloc (.cells #[.int .i64 c.mn, .int .i64 c.mx, .int .i64 c.wn, .int .u64 c.mask] 83)) w.heap.size c := Blk.new w _ _
theorem CutAt.lt {w : World} {g : Nat} {c : CutZ} (h : CutAt w g c) : g < w.heap.size := Blk.lt h
theorem CutAt.of {w w' : World} {g : Nat} {c : CutZ} (h : CutAt w g c) (k : Below w.heap.size w w') : CutAt w' g c := Blk.of h k
theorem CutAt.ch {S : Nat → Prop} {w w' : World} {g : Nat} {c : CutZ} (h : CutAt w g c) (k : Ch S w w') (hn : ¬ S g) : CutAt w' g c := Blk.ch h k hn
theorem CutAt.cells {w : World} {g : Nat} {c : CutZ} (h : CutAt w g c) : w.cell? ⟨g, 0, none⟩ = some (.int .i64 c.mn) ∧ w.cell? ⟨g, 1, none⟩ = some (.int .i64 c.mx) ∧ w.cell? ⟨g, 2, none⟩ = some (.int .i64 c.wn) ∧ w.cell? ⟨g, 3, none⟩ = some (.int .u64 c.mask) ∧ g < w.heap.size :=
  ⟨(Blk.cell h 0).trans rfl, (Blk.cell h 1).trans rfl, (Blk.cell h 2).trans rfl, (Blk.cell h 3).trans rfl, Blk.lt h⟩
theorem natV_get (l : List Nat) (k : Nat) (h : k < l.length) (h' : k < (natV l).length) : (natV l)[k] = .int .i64 (l[k] : Int) := by simp [natV]
/-- element k of a row of boundaries -/
theorem nat_at {w : World} {B : Nat} {A : Option Addr} {l : List Nat} (hr : Row w B A (natV l)) {k : Nat} (h : k < l.length) :
    ∃ ad : Addr, A = some ad ∧ ad.block < B ∧ w.cell? (ad.add k) = some (.int .i64 (l[k] : Int)) := by
  obtain ⟨ad, rfl, hb, hc⟩ := hr.at_ (k := k) (by rw [natV_length]; exact h)
  rw [natV_get l k h] at hc
  exact ⟨ad, rfl, hb, hc⟩
theorem ends_lt {c : CutZ} (ok : c.Ok) {l : List Int} {k : Nat} (h : k < (endsZ c l).length) : 1 ≤ (endsZ c l)[k] ∧ (endsZ c l)[k] ≤ l.length := endsZ_bd ok l _ (List.getElem_mem h)
theorem lensZ_len {c : CutZ} (ok : c.Ok) (l : List Int) : (lensZ c l).length ≤ l.length := by
  have h1 := lensZ_sum ok l
  have h2 := lensZ_pos ok l
  rw [← h1]
  generalize lensZ c l = ls at *
  clear h1
  induction ls with
  | nil => simp
  | cons n ns ih =>
    have := ih (fun m hm => h2 m (by simp [hm]))
    have := (h2 n (by simp)).1
    simp only [List.length_cons, List.sum_cons]; omega
theorem ends_len {c : CutZ} (ok : c.Ok) (l : List Int) : (endsZ c l).length ≤ l.length := by rw [endsZ_length]; exact lensZ_len ok l

/-- the parameters as the walk has them -/
def CutZ.raw (c : CutZ) : Value := .agg #[.int .i64 c.mn, .int .i64 c.mx, .int .i64 c.wn, .int .u64 c.mask]
theorem joined_three (L : Option Addr) (lc B : Nat) (A A2 A3 : Option Addr) (cap cap2 cap3 : Nat) (zs zs2 zs3 : List Int) (w : World) (hl : Row w B L [.slice A zs.length cap, .slice A2 zs2.length cap2, .slice A3 zs3.length cap3])
    (hp : Row w B A (zs.map (.int .u8))) (hp2 : Row w B A2 (zs2.map (.int .u8))) (hp3 : Row w B A3 (zs3.map (.int .u8))) (hB : B ≤ w.heap.size) (hsum : zs.length + zs2.length + zs3.length ≤ 140737488355328) :
    Calls Try.prog 31 #[.slice L 3 lc] w fun e w' => ∃ A' cap', e = .returned (.slice A' (zs ++ (zs2 ++ zs3)).length cap') ∧
      w'.ownsRow w.heap.size 5 1 (.slice A' (zs ++ (zs2 ++ zs3)).length cap') (zs ++ (zs2 ++ zs3)).length ((zs ++ (zs2 ++ zs3)).map (.int .u8)) ∧ Below w.heap.size w w' := by
  have e : flat [⟨A, cap, zs⟩, ⟨A2, cap2, zs2⟩, ⟨A3, cap3, zs3⟩] = zs ++ (zs2 ++ zs3) := by simp [flat]
  have h := joined_any L lc B [⟨A, cap, zs⟩, ⟨A2, cap2, zs2⟩, ⟨A3, cap3, zs3⟩] w hl (fun p hp' => by
    rcases List.mem_cons.1 hp' with rfl | hp'
    · exact hp
    · rcases List.mem_cons.1 hp' with rfl | hp'
      · exact hp2
      · rw [List.mem_singleton] at hp'; subst hp'; exact hp3) hB (by simp) (by rw [e, List.length_append, List.length_append]; omega)
  rw [e] at h
  exact h
end

/- Split:
  chunker.Split.
-/
section
set_option linter.unusedVariables false
set_option linter.unusedSimpArgs false
set_option linter.unnecessarySimpa false
open Go.RowKit
attribute [local go_sem ↓] Go.wp_at_zero Go.wp_at_succ

/-- parts that lie behind block g -/
def Far (w : World) (g : Nat) (ps : List Part) : Prop := ∀ p ∈ ps, Row w w.heap.size p.A (p.zs.map (.int .u8)) ∧ (∀ ad, p.A = some ad → g < ad.block) ∧ p.zs.length ≤ p.cap
theorem Far.of {w w' : World} {g : Nat} {ps : List Part} (h : Far w g ps) (k : Below w.heap.size w w') : Far w' g ps := fun p hp => ⟨((h p hp).1.up k (Nat.le_refl _)).more k.size, (h p hp).2⟩
theorem Far.ch {w w' : World} {g : Nat} {ps : List Part} (h : Far w g ps) (k : Ch (At g) w w') : Far w' g ps := fun p hp =>
  ⟨((h p hp).1.chA k (Nat.le_refl _) (fun ad e => by have := (h p hp).2.1 ad e; show ¬ _ = g; omega)).more k.size, (h p hp).2⟩
theorem Far.lie {w : World} {g : Nat} {ps : List Part} (h : Far w g ps) : Lie w w.heap.size ps := fun p hp => (h p hp).1

theorem fill_set {α : Type} (xs : List α) (z v : α) (n k : Nat) (h : xs.length = k) (hk : k < n) : (xs ++ List.replicate (n - k) z).set k v = (xs ++ [v]) ++ List.replicate (n - (k + 1)) z := by
  subst h
  rw [List.set_append_right _ _ (Nat.le_refl _), Nat.sub_self, show n - xs.length = (n - (xs.length + 1)) + 1 by omega, List.replicate_succ, List.set_cons_zero, List.append_assoc]
  rfl
theorem fill_get {α : Type} (xs : List α) (z : α) (n k : Nat) (h : xs.length = k) (hk : k < n) : (xs ++ List.replicate (n - k) z)[k]? = some z := by
  subst h
  rw [List.getElem?_append_right (Nat.le_refl _), Nat.sub_self, List.getElem?_replicate, if_pos (by omega)]
set_option maxHeartbeats 2000000 in
theorem split_any (c : CutZ) (ok : c.Ok) (A : Option Addr) (cap B : Nat) (zs : List Int) (w : World) (hr : Row w B A (zs.map (.int .u8))) (hB : B ≤ w.heap.size) (hz : ∀ z ∈ zs, 0 ≤ z ∧ z ≤ 255) (hm : zs.length ≤ 1048576) (hcap : zs.length ≤ cap) :
    Calls Try.prog 71 #[cutV c.mn c.mx c.wn c.mask, .slice A zs.length cap] w fun e w' => ∃ (g : Nat) (ps : List Part), e = .returned (.tuple #[.slice (some ⟨g, 0, none⟩) ps.length ps.length, .int .i64 0]) ∧
      w'.ownsRow w.heap.size 34 1 (.slice (some ⟨g, 0, none⟩) ps.length ps.length) ps.length (ps.map Part.v) ∧ Far w' g ps ∧ ps.map Part.zs = cutsL (lensZ c zs) zs ∧ Below w.heap.size w w' := by
  have g0 := grew_alloc w (.cells #[.int .i64 c.mn, .int .i64 c.mx, .int .i64 c.wn, .int .u64 c.mask] 83)
  have hr0 := hr.below g0 hB
  have HC := Lib.hid (ends_any c ok A cap B zs _ hr0 (by simp; omega) hz hm)
  have hlen := ends_len ok zs
  have HL := Lib.hid (endsZ_length (c := c) zs)
  have HS := Lib.hid (lensZ_sum ok zs)
  have HP := Lib.hid (fun n hn => lensZ_pos ok zs n hn)
  have HG := Lib.hid (fun k h h' => psums_get (lensZ c zs) 0 k h h')
  unfold cutV at HC ⊢
  unfold endsZ at *
  generalize lensZ c zs = ls at *
  obtain ⟨i0, hi, hz0, hz1, hz2⟩ := info_parts (show (Try.prog.info? 34).map (fun i => (i.zero, i.size, i.bytes)) = some (some (.slice none 0 0), 1, 24) from by kernel_rfl)
  clear hz
  go_enter Try.func71, Try.ntmps71
  go_wp2_with fail
  refine HC.out.mono ?_
  rintro e w1 ⟨A1, c1, rfl, hown, hb⟩
  have hb1 := Grew.trans g0 hb
  have hr1 := hr0.below hb (by simp; omega)
  have hb1s := hb1.size
  rw [HL.out] at hown hlen ⊢
  clear hb g0 HC hr hr0
  go_wp2_with (at_make; refine wpList_make_full _ rfl (.tmp 22) (.tmp 22) 27 rfl w.heap.size 34 i0 (.slice none 0 0) 1 Try.underlying27 hi hz0 hz1 .i64 .i64 _ _ ls.length rfl rfl rfl rfl (by rw [hz2]; omega) (by unfold maxLen; omega) hb1s ?_)
  intro w2 hown2 hgrow
  simp only [Value.cells, Nat.mul_one, toList_madeCells_one] at hown2
  have hE := own_row hown
  have hG2 : Grew w1 w2 := (Below.refl _ _).grown hgrow (Nat.le_refl _) (by simp)
  have hgs : Hid (w1.heap.size = w1.heap.size) := Lib.hid rfl
  clear hgrow hown
  go_wp2_with fail
  go_loopw [9, 26] (fun b i wr => ∃ (k : Nat) (ps : List Part), k ≤ ls.length ∧ i = .int .i64 k ∧ b = .int .i64 ((ls.take k).sum : Nat) ∧ Hid (ps.length = k) ∧
    wr.ownsRow w.heap.size 34 1 (.slice (some ⟨w1.heap.size, 0, none⟩) ls.length ls.length) ls.length (ps.map Part.v ++ List.replicate (ls.length - k) (.slice none 0 0)) ∧ Far wr w1.heap.size ps ∧ Hid (ps.map Part.zs = cutsL (ls.take k) zs) ∧ Below w1.heap.size w1 wr) (fun _ i _ => ls.length - (intOf i).toNat)
  case atStart => exact ⟨0, [], Nat.zero_le _, rfl, by simp, Lib.hid rfl, by simpa using hown2, fun p hp => by simp at hp, Lib.hid (by simp [cutsL]), hG2⟩
  case round =>
    clear hown2 hG2 hgs
    obtain ⟨k, ps, hk, rfl, rfl, HK, hown, hF, HZ, hb⟩ := hrel
    have hs1 := hb.size
    have hwl : ls.length = 0 ∨ w1.heap.size < wr.heap.size := by
      rcases Nat.eq_zero_or_pos ls.length with h | h
      · exact .inl h
      · obtain ⟨g, hg, _, hl⟩ := own_some hown h
        injection hg with hg
        injection hg with hg
        exact .inr (by omega)
    by_cases hlt : k < ls.length
    · have hsum := take_sum_succ ls k hlt
      have hle := take_sum_le ls (k + 1)
      rw [HS.out] at hle
      have hpos := (HP.out ls[k] (List.getElem_mem hlt)).1
      obtain ⟨ad1, rfl, hbl, hc⟩ := nat_at (hE.below hb (Nat.le_refl _)) (show k < (psums 0 ls).length by rw [HL.out]; exact hlt)
      rw [HG.out k hlt, Nat.zero_add] at hc
      have HCut := Lib.hid (cutsL_take ls k hlt zs)
      have hm' : ls[k] = (ls.take (k + 1)).sum - (ls.take k).sum := by omega
      rw [hm'] at HCut
      clear hm'
      obtain ⟨s, hs⟩ : ∃ s, s = (ls.take k).sum := ⟨_, rfl⟩
      obtain ⟨e, he⟩ : ∃ e, e = (ls.take (k + 1)).sum := ⟨_, rfl⟩
      rw [← hs] at HCut hsum ⊢
      rw [← he] at HCut hsum hle hc
      have HE := Lib.hid he
      clear hs he
      have hse : s < e := by omega
      clear hsum hpos
      obtain ⟨ad, rfl, hbd, _⟩ := (hr1.below hb (by omega)).at_ (k := s) (by rw [List.length_map]; omega)
      have hcs : ¬ cap = s := by omega
      have hrd := (hr1.below hb (by omega)).cut' (lo := s) (m := e - s) (cap := cap) (by omega)
      rw [if_neg hcs, ← List.map_drop, ← List.map_take] at hrd
      have hll : ((zs.drop s).take (e - s)).length = e - s := by rw [List.length_take, List.length_drop]; omega
      have HCl := Lib.hid (clone_any (ad.add s) (cap - s) B ((zs.drop s).take (e - s)) wr hrd (by omega) (by omega) (by omega))
      rw [hll] at HCl
      have HLL := Lib.hid hll
      clear hll hrd
      have c1' : (s : Int) ≤ e := by omega
      have c2' : (e : Int) ≤ cap := by omega
      go_wp2_with fail
      refine HCl.out.mono ?_
      rintro ee w3 ⟨A3, c3, rfl, hown3, hb3⟩
      have own4 := own_below hown hb3
      have hg1 := own4.cellAt k (by omega)
      rw [fill_get _ _ _ _ (by rw [List.length_map, HK.out]) hlt] at hg1
      have hfz := own4.frozenAt k
      have hk1 : (k : Int) < (ls.length : Int) := by omega
      have hst := own4.stored k (.slice A3 (e - s) c3)
      have hs3 := hb3.size
      have HST := Lib.hid hst
      obtain ⟨ga, hga, hgb, hgl⟩ := own_some hown3 (by omega)
      have HF : Hid (Far w3 w1.heap.size (ps ++ [⟨A3, c3, (zs.drop s).take (e - s)⟩])) := Lib.hid (fun p hp => by
        rcases List.mem_append.1 hp with h | h
        · exact (hF.of hb3) p h
        · rw [List.mem_singleton] at h
          subst h
          exact ⟨own_row hown3, fun ad e => by have e2 : A3 = some ad := e; rw [hga] at e2; injection e2 with e2; subst e2; show w1.heap.size < ga; have := hwl; omega, by simp only; rw [HLL.out]; exact (own_cap hown3).1⟩)
      have hb4 : Below w1.heap.size w1 w3 := Grew.trans hb hb3
      have HO := Lib.hid hown3
      clear hst HCl hown own4 hown3 hb hb3 hF hga hcs
      go_wp2_with fail
      go_roundw
      case rel =>
        refine ⟨k + 1, ps ++ [⟨A3, c3, (zs.drop s).take (e - s)⟩], by omega, by go_num, ?_, Lib.hid (by rw [List.length_append, HK.out]; rfl), ?_, HF.out.ch (Ch.of_grown HST.out.2), Lib.hid (by rw [List.map_append, HZ.out, HCut.out]; rfl), ?_⟩
        · rw [← HE.out]
        · rw [List.map_append]
          have h := HST.out.1
          rw [fill_set _ _ _ _ _ (by rw [List.length_map, HK.out]) hlt] at h
          have hv : Part.v ⟨A3, c3, (zs.drop s).take (e - s)⟩ = .slice A3 (e - s) c3 := by unfold Part.v; rw [HLL.out]
          rw [List.map_cons, List.map_nil, hv]
          exact h
        · exact hb4.setCell (by show w1.heap.size ≤ w1.heap.size; omega) _
      case measure => simp [intOf]; omega
    · obtain rfl : k = ls.length := by omega
      go_wp2_with fail
      go_ret2
      refine ⟨w1.heap.size, ps, by rw [HK.out]; rfl, ?_, hF, by rw [HZ.out, List.take_length], Grew.trans hb1 hb⟩
      rw [HK.out]
      simpa using hown
end

/- Texts:
  Byte strings that a function laid; are two lists of byte strings equal; the reference's Cuts.
-/
section
set_option linter.unusedVariables false
set_option linter.unusedSimpArgs false
set_option linter.unnecessarySimpa false
open Go.RowKit
attribute [local go_sem ↓] Go.wp_at_zero Go.wp_at_succ

/-- element k of the sums of ls, from where it lay at the beginning -/
theorem nat_up {w w' : World} {B k e : Nat} {ad : Addr} {ls : List Nat} (hs : Row w B (some ad) (natV (psums 0 ls))) (hB : B ≤ w.heap.size) (hb : Below w.heap.size w w') (hl : (psums 0 ls).length = ls.length)
    (hg : ∀ k, k < ls.length → ∀ h : k < (psums 0 ls).length, (psums 0 ls)[k] = 0 + (ls.take (k + 1)).sum) (hk : k < ls.length) (he : e = (ls.take (k + 1)).sum) : w'.cell? (ad.add k) = some (.int .i64 (e : Int)) := by
  obtain ⟨ad1, h1, _, hc⟩ := nat_at (hs.below hb hB) (show k < (psums 0 ls).length by rw [hl]; exact hk)
  injection h1 with h1
  subst h1
  rw [hg k hk, Nat.zero_add, ← he] at hc
  exact hc
set_option maxHeartbeats 2000000 in
theorem refCuts_any (A : Option Addr) (cap B : Nat) (zs : List Int) (A2 : Option Addr) (cap2 : Nat) (ls : List Nat) (w : World) (hr : Row w B A (zs.map (.int .u8))) (hs : Row w B A2 (natV (psums 0 ls))) (hB : B ≤ w.heap.size) (hcap : zs.length ≤ cap) (hm : zs.length ≤ 1048576)
    (hsum : ls.sum ≤ zs.length) (hpos : ∀ n ∈ ls, 1 ≤ n) (hl : ls.length ≤ 1048576) (hpl : (psums 0 ls).length = ls.length) :
    Calls Try.prog 73 #[.slice A zs.length cap, .slice A2 ls.length cap2] w fun e w' => ∃ A' cap' ps, e = .returned (.slice A' ps.length cap') ∧
      w'.ownsRow w.heap.size 34 1 (.slice A' ps.length cap') ps.length (ps.map Part.v) ∧ Txs w' w.heap.size ps ∧ ps.map Part.zs = cutsL ls zs ∧ Below w.heap.size w w' := by
  have HP := Lib.hid hpos
  have HL := Lib.hid hpl
  have HG := Lib.hid (fun k h h' => psums_get ls 0 k h h')
  clear hpos hpl
  go_enter Try.func73, Try.ntmps73
  go_wp2_with fail
  go_loopw [5, 6, 7] (fun v b i wr => (∃ (k : Nat) (ps : List Part) (A1 : Option Addr) (c1 : Nat), k ≤ ls.length ∧ i = .int .i64 k ∧ b = .int .i64 ((ls.take k).sum : Nat) ∧ v = .slice A1 ps.length c1 ∧ Hid (ps.length = k) ∧
    wr.ownsRow w.heap.size 34 1 (.slice A1 ps.length c1) ps.length (ps.map Part.v) ∧ Txs wr w.heap.size ps ∧ Hid (ps.map Part.zs = cutsL (ls.take k) zs)) ∧ Below w.heap.size w wr) (fun _ _ i _ => ls.length - (intOf i).toNat)
  case atStart => exact ⟨⟨0, [], none, 0, Nat.zero_le _, rfl, rfl, rfl, Lib.hid rfl, World.ownsRow_nil _ _ _ _, Txs.nil, Lib.hid (by simp [cutsL])⟩, Below.refl _ _⟩
  case round =>
    obtain ⟨⟨k, ps, A1, c1, hk, rfl, rfl, rfl, HK, hown, hT, HZ⟩, hb⟩ := hrel
    have hbs := hb.size
    by_cases hlt : k < ls.length
    · have hle1 := take_sum_succ ls k hlt
      have hle := take_sum_le ls (k + 1)
      have hpos := HP.out ls[k] (List.getElem_mem hlt)
      obtain ⟨ad1, rfl, hbl, hc⟩ := nat_at (hs.below hb hB) (show k < (psums 0 ls).length by rw [HL.out]; exact hlt)
      rw [HG.out k hlt, Nat.zero_add] at hc
      have HCut := Lib.hid (cutsL_take ls k hlt zs)
      have hm' : ls[k] = (ls.take (k + 1)).sum - (ls.take k).sum := by omega
      rw [hm'] at HCut
      clear hm'
      obtain ⟨s, hs'⟩ : ∃ s, s = (ls.take k).sum := ⟨_, rfl⟩
      obtain ⟨e, he⟩ : ∃ e, e = (ls.take (k + 1)).sum := ⟨_, rfl⟩
      rw [← hs'] at HCut hle1 ⊢
      rw [← he] at HCut hle1 hle hc
      have HE := Lib.hid he
      clear hs' he
      have hse : s < e := by omega
      clear hle1 hpos
      obtain ⟨ad, rfl, hbd, _⟩ := (hr.below hb hB).at_ (k := s) (by rw [List.length_map]; omega)
      have hcs : ¬ cap = s := by omega
      have hrd := (hr.below hb hB).cut' (lo := s) (m := e - s) (cap := cap) (by omega)
      rw [if_neg hcs, ← List.map_drop, ← List.map_take] at hrd
      have hll : ((zs.drop s).take (e - s)).length = e - s := by rw [List.length_take, List.length_drop]; omega
      have c1' : (s : Int) ≤ e := by omega
      have c2' : (e : Int) ≤ cap := by omega
      have HLL := Lib.hid hll
      have hlm : (((zs.drop s).take (e - s)).map (Value.int .u8)).length = (e - s) * 1 := by rw [List.length_map, hll, Nat.mul_one]
      generalize hys : (zs.drop s).take (e - s) = ys at *
      have HY := Lib.hid hys
      clear hys hll
      have hps : ps.length ≤ 1048576 := by rw [HK.out]; omega
      go_wp2_with (first
        | (at_builtin; refine wpList_append_row rfl (.const (.slice none 0 0)) (.tmp 21) rfl w.heap.size elem_u8 (by rfl) (World.ownsRow_nil _ _ _ _) B (by rfl) hlm hrd (ones_u8 _) (by unfold maxLen; omega) (by omega) hbs ?_; intro A3 c3 w3 hown3 hg3 _; have hG3 := grew_nil hg3; have hO := own_below hown hG3; have hTT := (hT.of hG3).snoc (Tx.own hown3); have hs3 := Nat.le_trans hbs hG3.size; have hb3 := Below.trans (B := w.heap.size) hb (hG3.mono hbs); clear hown3 hg3 hG3 hown hT hb hc)
        | (at_builtin; refine wpList_append_row rfl (.tmp 14) (.tmp 23) rfl w.heap.size elem_bytes (by rfl) (hO.alloc _) _ (by rfl) (by rfl) (Blk.row (Blk.new w3 34 #[.slice A3 (e - s) c3])) (by simp [Value.oneCell']) (by unfold maxLen; omega) (by omega) (by simp; omega) ?_; intro A4 c4 w4 hown4 hg4 _; have hT4 := (hTT.of (grew_alloc w3 _)).ch (Ch.of_own hg4) (own_noBytes (hO.alloc _) (by decide)); have hb4 : Below w.heap.size w w4 := Below.trans (B := w.heap.size) (Below.trans (B := w.heap.size) hb3 ((grew_alloc w3 _).mono hs3)) (below_grown hg4 (by simp; omega) (own_lt hO)); have hc4 : w4.cell? (ad1.add k) = some (Value.int IntKind.i64 ↑e) := nat_up hs hB hb4 HL.out HG.out hlt HE.out; clear hg4 hO hTT hb3 hs3))
      go_roundw
      case rel =>
        refine ⟨⟨k + 1, ps ++ [⟨A3, c3, ys⟩], A4, c4, by omega, by go_num, by rw [← HE.out], by rw [List.length_append]; rfl, Lib.hid (by rw [List.length_append, HK.out]; rfl), ?_, hT4, Lib.hid (by rw [List.map_append, HZ.out, HCut.out]; rfl)⟩, hb4⟩
        have hv : Part.v ⟨A3, c3, ys⟩ = .slice A3 (e - s) c3 := by unfold Part.v; rw [HLL.out]
        rw [List.length_append, List.map_append, List.map_cons, List.map_nil, hv]
        exact hown4
      case measure => simp [intOf]; omega
    · obtain rfl : k = ls.length := by omega
      go_wp2_with fail
      go_ret
      exact ⟨A1, c1, ps, rfl, hown, hT, by rw [HZ.out, List.take_length], hb⟩

theorem split_at' (c : CutZ) (ok : c.Ok) (A : Option Addr) (cap B : Nat) (zs : List Int) (w : World) (hr : Row w B A (zs.map (.int .u8))) (hB : B ≤ w.heap.size) (hz : ∀ z ∈ zs, 0 ≤ z ∧ z ≤ 255) (hm : zs.length ≤ 1048576) (hcap : zs.length ≤ cap) :
    Calls Try.prog 71 #[.agg #[.int .i64 c.mn, .int .i64 c.mx, .int .i64 c.wn, .int .u64 c.mask], .slice A zs.length cap] w fun e w' => ∃ (g : Nat) (ps : List Part), e = .returned (.tuple #[.slice (some ⟨g, 0, none⟩) ps.length ps.length, .int .i64 0]) ∧
      w'.ownsRow w.heap.size 34 1 (.slice (some ⟨g, 0, none⟩) ps.length ps.length) ps.length (ps.map Part.v) ∧ Far w' g ps ∧ ps.map Part.zs = cutsL (lensZ c zs) zs ∧ Below w.heap.size w w' := split_any c ok A cap B zs w hr hB hz hm hcap
end

end Go.Proofs.Ytnjhipnfhapngaa
