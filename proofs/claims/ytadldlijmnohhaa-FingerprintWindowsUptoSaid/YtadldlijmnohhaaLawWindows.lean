/-
  stockyardlaw22.FingerprintWindows returns true, for lists of at most 1048576 elements.
-/
import Derived.Test.YtadldlijmnohhaaWin
import Derived.Test.YtadldlijmnohhaaPref
import Derived.Test.YtadldlijmnohhaaSame
namespace Go.Proofs.Ytadldlijmnohhaa
set_option linter.unusedVariables false
set_option linter.unusedSimpArgs false
set_option linter.unnecessarySimpa false
open Go.RowKit
attribute [local go_sem ↓] Go.wp_at_zero Go.wp_at_succ

/-- the numbers modulo Prime -/
def modZ (zs : List Int) : List Int := zs.map fun z => z % 2305843009213693951
theorem modZ_length (zs : List Int) : (modZ zs).length = zs.length := by simp [modZ]
theorem modZ_u64 (zs : List Int) : ∀ z ∈ modZ zs, 0 ≤ z ∧ z < 18446744073709551616 := by
  intro z hz
  obtain ⟨j, _, rfl⟩ := List.mem_map.1 hz
  omega
theorem modZ_snoc (zs : List Int) (k : Nat) (h : k < zs.length) : modZ (zs.take (k + 1)) = modZ (zs.take k) ++ [zs[k] % 2305843009213693951] := by
  unfold modZ; rw [List.take_succ_eq_append_getElem h, List.map_append]; rfl

set_option maxHeartbeats 2000000 in
theorem lawWindows_any (A : Option Addr) (cap : Nat) (zs : List Int) (A2 : Option Addr) (cap2 : Nat) (ps : List Int) (f t : Int) (w : World) (hr : Row w w.heap.size A (zs.map (.int .u8))) (hz : ∀ z ∈ zs, 0 ≤ z ∧ z ≤ 255) (hm : zs.length ≤ 1048576)
    (hs : Row w w.heap.size A2 (ps.map (.int .u64))) (hp : ∀ z ∈ ps, 0 ≤ z ∧ z < 18446744073709551616) (hm2 : ps.length ≤ 1048576)
    (f0 : -9223372036854775808 ≤ f) (f1 : f ≤ 9223372036854775807) (t0 : -9223372036854775808 ≤ t) (t1 : t ≤ 9223372036854775807) :
    Calls Try.prog 9 #[.slice A zs.length cap, .slice A2 ps.length cap2, .int .i64 f, .int .i64 t] w fun e w' => e = .returned (.bool true) ∧ Below w.heap.size w w' := by
  have Hz := Lib.hid hz
  have Hp := Lib.hid hp
  clear hz hp
  obtain ⟨i0, hi, hz0, hz1, hz2⟩ := info_parts (show (Try.prog.info? 22).map (fun i => (i.zero, i.size, i.bytes)) = some (some (.int .u64 0), 1, 8) from rfl)
  go_enter Try.func9, Try.ntmps9
  go_wp2_with fail
  refine (window_any A2 cap2 _ ps f t w hs Hp.out (by omega) f0 f1 t0 t1).mono ?_
  rintro e w1 ⟨rfl, hd1⟩
  have hs1 := hs.keep (w' := w1) fun p _ => hd1.cell p
  have hb1 : Below w.heap.size w w1 := hd1.below _
  unfold winV
  go_wp2_with fail
  refine (refWindow_any A2 cap2 _ ps f t w1 hs1 Hp.out (by omega) f0 f1 t0 t1).mono ?_
  rintro e w2 ⟨rfl, hd2⟩
  have hs2 := hs1.keep (w' := w2) fun p _ => hd2.cell p
  have hb2 : Below w.heap.size w w2 := by obtain ⟨n, rfl⟩ := hd2; exact below_drewN hb1 n
  unfold winV
  generalize (winR ps f t).1 = v1
  generalize (winR ps f t).2 = v2
  clear hd1 hd2 hb1 hs1
  go_wp2_with (at_make; refine wpList_make_own _ rfl (.const (.int .i64 0)) (.tmp 36) 42 rfl w.heap.size 22 i0 (.int .u64 0) 1 Try.underlying42 hi hz0 hz1 .i64 .i64 _ ps.length rfl rfl rfl (by rw [hz2]; omega) (by unfold maxLen; omega) hb2.size ?_)
  intro w3 hown hgrow
  have hb3 : Below w.heap.size w w3 := hb2.grown hgrow hb2.size (by simp)
  have hs3 := hs.below hb3 (Nat.le_refl _)
  clear hgrow hs2
  go_wp2_with fail
  go_loopw [13, 14] (fun v i wr => (∃ k : Nat, k ≤ ps.length ∧ i = .int .i64 k ∧ ∃ A cap, v = .slice A (modZ (ps.take k)).length cap ∧
      wr.ownsRow w.heap.size 22 1 (.slice A (modZ (ps.take k)).length cap) (modZ (ps.take k)).length ((modZ (ps.take k)).map (.int .u64))) ∧ Below w.heap.size w wr) (fun _ i _ => ps.length - (intOf i).toNat)
  case atStart => exact ⟨⟨0, Nat.zero_le _, rfl, _, _, rfl, hown⟩, hb3⟩
  case round =>
    clear hown hb3 hs3 hb2
    obtain ⟨⟨k, hk, rfl, B3, cap3, rfl, hown⟩, hb⟩ := hrel
    have hbs := hb.size
    by_cases hlt : k < ps.length
    · obtain ⟨ad, rfl, hbl, hc⟩ := (hs.below hb (Nat.le_refl _)).at_ (k := k) (by simpa using hlt)
      rw [List.getElem_map] at hc
      have hbd := Hp.out _ (List.getElem_mem hlt)
      have HS := Lib.hid (modZ_snoc ps k hlt)
      have hl : (modZ (ps.take k)).length ≤ 1048576 := by rw [modZ_length, List.length_take]; omega
      have hnw := fun x => (Blk.new wr 22 #[.int .u64 x]).row
      simp only [World.size_alloc] at hnw
      have HN := Lib.hid hnw
      clear hnw
      go_wp2_with (at_builtin; refine wpList_append_row rfl (.tmp 44) (.tmp 50) rfl w.heap.size elem_u64 (by rfl) (hown.alloc _) _ (by rfl) (by rfl) (HN.out _) (by simp [Value.oneCell']) (by unfold maxLen; omega) (by omega) (by simp; omega) ?_; intro A1 cap1 w4 hown1 hg1 _)
      have hb4 : Below w.heap.size w w4 := (hb.alloc hbs _).trans (below_grown hg1 (by simp; omega) (own_lt hown))
      go_wp2
      go_roundw
      case rel =>
        refine ⟨⟨k + 1, by omega, by go_num, A1, cap1, ?_, ?_⟩, hb4⟩
        · rw [HS.out, List.length_append]; rfl
        · rw [HS.out, List.length_append, List.map_append]
          exact hown1
      case measure => simp [intOf]; omega
    · have e : ps.take k = ps := List.take_of_length_le (by omega)
      rw [e] at hown ⊢
      clear e
      obtain ⟨hc1, hc2⟩ := own_cap hown
      have hsz : (modZ ps).length ≤ 1048576 := by rw [modZ_length]; omega
      have HL := Lib.hid (modZ_u64 ps)
      generalize modZ ps = qs at *
      go_wp2_with fail
      refine (fold_any _ _ t0 t1 (by omega) _).mono ?_
      rintro e wn ⟨rfl, rfl⟩
      have et := foldI_lo t qs.length
      have et1 : foldI t qs.length ≤ 1048576 := by
        rcases Nat.lt_or_ge 0 qs.length with h | h
        · have := foldI_hi t qs.length (by omega); omega
        · rw [← foldI_one (v := t) (n := qs.length) (by omega)]; omega
      generalize foldI t qs.length = tn at *
      go_wp2_with fail
      refine (fold_any _ _ f0 f1 (by omega) _).mono ?_
      rintro e wn ⟨rfl, rfl⟩
      have ef := foldI_lo f (tn + 1)
      have ef1 := foldI_hi f (tn + 1) (by omega)
      generalize foldI f (tn + 1) = fn at *
      go_wp2_with fail
      refine (window_any B3 cap3 _ qs fn tn wr (own_row hown) HL.out (by omega) (by omega) (by omega) (by omega) (by omega)).mono ?_
      rintro e w5 ⟨rfl, hd1⟩
      have hown5 := own_below hown (hd1.below _)
      have hb5 : Below w.heap.size w w5 := by obtain ⟨n, rfl⟩ := hd1; exact below_drewN hb n
      unfold winV
      go_wp2_with fail
      refine (refWindow_any B3 cap3 _ qs fn tn w5 (own_row hown5) HL.out (by omega) (by omega) (by omega) (by omega) (by omega)).mono ?_
      rintro e w6 ⟨rfl, hd2⟩
      have hb6 : Below w.heap.size w w6 := by obtain ⟨n, rfl⟩ := hd2; exact below_drewN hb5 n
      unfold winV
      generalize (winR qs fn tn).1 = v3
      generalize (winR qs fn tn).2 = v4
      clear hown5 hb5 hd1 hd2 hown hb
      go_wp2_with fail
      refine (prefixes_any A cap _ zs _ (hr.below hb6 (Nat.le_refl _)) hb6.size Hz.out hm).mono ?_
      rintro e w7 ⟨A7, cap7, rfl, hown7, hb⟩
      have hb7 : Below w.heap.size w w7 := hb6.trans (hb.mono hb6.size)
      clear hb
      go_wp2_with fail
      refine (refPrefixes_any A cap _ zs _ (hr.below hb7 (Nat.le_refl _)) hb7.size Hz.out hm).mono ?_
      rintro e w8 ⟨A8, cap8, rfl, hown8, hb⟩
      have hb8 : Below w.heap.size w w8 := hb7.trans (hb.mono hb7.size)
      replace hown7 := own_below hown7 hb
      clear hb
      have hpl : (prefU zs zs.length).length ≤ 9223372036854775807 := by rw [prefU_length]; omega
      have HP := Lib.hid hpl
      have HQ := Lib.hid (eqZ_same (prefU zs zs.length))
      clear hpl
      go_wp2_with fail
      refine (sameSums_any A7 A8 cap7 cap8 _ (prefU zs zs.length) (prefU zs zs.length) w8 (own_row hown7) (own_row hown8) HP.out HP.out).mono ?_
      rintro e w9 ⟨rfl, hd⟩
      rw [HQ.out]
      have hb9 : Below w.heap.size w w9 := by obtain ⟨n, rfl⟩ := hd; exact below_drewN hb8 n
      go_wp2_with fail
      go_ret
      exact ⟨by simp, hb9⟩

end Go.Proofs.Ytadldlijmnohhaa
