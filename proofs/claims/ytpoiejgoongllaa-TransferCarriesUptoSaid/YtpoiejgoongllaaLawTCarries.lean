/-
  stockyardlaw37.TransferCarries returns true, for lists of at most 1048576 packets and faults.
-/
import Derived.Test.YtpoiejgoongllaaFaults37
import Derived.Test.YtpoiejgoongllaaSame37
import Derived.Test.YtpoiejgoongllaaKnown37
namespace Go.Proofs.Ytpoiejgoongllaa
set_option linter.unusedVariables false
set_option linter.unusedSimpArgs false
set_option linter.unnecessarySimpa false
open Go.RowKit
attribute [local go_sem ↓] Go.wp_at_zero Go.wp_at_succ

set_option maxRecDepth 100000 in
set_option maxHeartbeats 4000000 in
theorem lawTCarries_any (A : Option Addr) (cap : Nat) (pl : List Pk) (F : Option Addr) (fcap : Nat) (raw : List FtZ) (T : Option Addr) (tcap : Nat) (ls : List Int) (w : World) (hr : Row w w.heap.size A (pksC pl)) (hin : PksIn w pl) (hn : pl.length ≤ 1048576)
    (hf : Row w w.heap.size F (ftsC raw)) (hok : ∀ f ∈ raw, FtOk f) (hm : raw.length ≤ 1048576) (ht : Row w w.heap.size T (ls.map (.int .i64))) (hz : ∀ z ∈ ls, -9223372036854775808 ≤ z ∧ z ≤ 9223372036854775807) (hl : ls.length ≤ 9223372036854775807) :
    Calls Try.prog 8 #[.slice A pl.length cap, .slice F raw.length fcap, .slice T ls.length tcap] w fun e w' => e = .returned (.bool true) ∧ Below w.heap.size w w' := by
  have hT := Tp.new (cap := tcap) ht (Nat.le_refl _) hz hl
  have g0 := grew_alloc w (.cells #[.slice T ls.length tcap, .int .i64 0] 25)
  have HCh0 : Hid (Ch (At w.heap.size) w (w.alloc (.cells #[.slice T ls.length tcap, .int .i64 0] 25))) := Lib.hid (Ch.of_below g0)
  have HIn := Lib.hid hin
  have HOk := Lib.hid hok
  have HR := Lib.hid hr
  have HF := Lib.hid hf
  clear hz g0 ht hin hok hr hf
  go_enter Try.func8, Try.ntmps8
  go_wp2_with fail
  generalize w.alloc (.cells #[.slice T ls.length tcap, .int .i64 0] 25) = w1 at *
  refine (faults37_any _ _ _ 1 _ hT (by omega) (by omega)).mono ?_
  rintro e w2 ⟨A2, c2, fl, rfl, hfl, hD, hown, hF2, _, hch⟩
  have HG2 : Hid (Grew w w2) := Lib.hid ((HCh0.out.trans hch).below (Nat.le_refl _) (fun i hi => by rw [hi]; exact Nat.le_refl _))
  have h0 : 0 < fl.length := by omega
  have hs01 := HCh0.out.size
  have h0I : (0 : Int) < (fl.length : Int) := by omega
  obtain ⟨g2, rfl, _, _⟩ := own_some hown h0
  have d0 : w2.cell? ⟨g2, 0, none⟩ = some (.slice fl[0].A fl[0].fs.length fl[0].cap) := by
    rw [hown.cellAt 0 (by omega), List.getElem?_map, List.getElem?_eq_getElem h0]; rfl
  have hm0 := List.getElem_mem h0
  have hO0 := hF2 _ hm0
  have HD0 := Lib.hid (hD _ hm0)
  have h12 := hch.size
  clear hT hch HCh0 hfl hD hF2 hown hm0
  generalize fl[0] = f0 at *
  obtain ⟨A0, c0, fs0⟩ := f0
  simp only [Fts.v] at d0 hO0 HD0
  have hl3 : fs0.length ≤ 3 := HD0.out.1
  have hsz2 : w1.heap.size ≤ w2.heap.size := h12
  have hf2 := (HF.out.up HG2.out (Nat.le_refl _))
  have HF2 := Lib.hid (hf2.more HG2.out.size)
  have ones : ∀ u ∈ ftsC raw, u.oneCell' = true := fun u hu => by
    obtain ⟨x, _, hx⟩ := List.mem_flatMap.1 hu
    exact ones_ft x u hx
  have HOnes := Lib.hid ones
  clear ones hf2
  go_wp2_with (at_builtin; refine wpList_append_row rfl (.tmp 15) (.tmp 16) rfl w1.heap.size elem_fault (by rfl) hO0 _ (by rfl) (ftsC_len raw) HF2.out HOnes.out (by unfold maxLen; omega) (by omega) hsz2 ?_; intro A8 c8 w8 hown8 hg8 _)
  have HG8 : Hid (Grew w w8) := Lib.hid (Below.trans (B := w.heap.size) HG2.out (below_grown hg8 HG2.out.size (fun k hk => Nat.le_trans hs01 (own_lt hO0 k hk))))
  have HF8 : Hid (Row w8 w8.heap.size A8 (ftsC (fs0 ++ raw))) := Lib.hid (by rw [ftsC_append]; exact own_row hown8)
  have HOf : Hid (∀ f ∈ fs0 ++ raw, FtOk f) := Lib.hid (fun f hf => (List.mem_append.1 hf).elim (fun h => (HD0.out.2 f h).ok) (HOk.out f))
  clear hown8 hg8 hO0 d0 HF2 HOnes
  go_wp2_with fail
  refine (known37_any w8).mono ?_
  rintro e w9 ⟨rfl, hb9⟩
  have HG9 := Lib.hid (Grew.trans HG8.out hb9)
  have HF9 := Lib.hid ((HF8.out.up hb9 (Nat.le_refl _)).more hb9.size)
  clear HG8 HF8 hb9
  have HC : Hid (Calls Try.prog 40 #[.slice A pl.length cap, .slice A8 (fs0.length + raw.length) c8] w9 (CarRes w9.heap.size (carryZ (pl.map Pk.z) (fs0 ++ raw)) w9)) := Lib.hid (by
    have h := carry37_any A cap pl A8 c8 (fs0 ++ raw) w9 ((HR.out.up HG9.out (Nat.le_refl _)).more HG9.out.size) (HIn.out.up HG9.out) HF9.out HOf.out (by rw [List.length_append]; omega)
    rwa [List.length_append] at h)
  go_wp2_with fail
  refine HC.out.mono ?_
  clear HC
  rintro e w10 ⟨A10, c10, q10, rfl, hz10, hI10, hb10⟩
  have HG10 := Lib.hid (Grew.trans HG9.out hb10)
  have HF10 := Lib.hid ((HF9.out.up hb10 (Nat.le_refl _)).more hb10.size)
  have HZ10 := Lib.hid hz10
  have HI10 := Lib.hid hI10
  clear HG9 HF9 hb10 hz10 hI10
  have HC : Hid (Calls Try.prog 41 #[.slice A pl.length cap, .slice A8 (fs0.length + raw.length) c8] w10 (RefRes w10.heap.size (carryZ (pl.map Pk.z) (fs0 ++ raw)) w10)) := Lib.hid (by
    have h := refCarry_any A cap pl A8 c8 (fs0 ++ raw) w10 ((HR.out.up HG10.out (Nat.le_refl _)).more HG10.out.size) (HIn.out.up HG10.out) HF10.out HOf.out (by rw [List.length_append]; omega)
    rwa [List.length_append] at h)
  go_wp2_with fail
  refine HC.out.mono ?_
  clear HC
  rintro e w11 ⟨A11, c11, q11, rfl, hz11, hI11, hb11⟩
  have HG11 := Lib.hid (Grew.trans HG10.out hb11)
  have HI10b := Lib.hid (HI10.out.of hb11)
  have hq10 : q10.length ≤ 9223372036854775807 := by
    have h1 := len_z HZ10.out
    have h2 := carryZ_length (pl.map Pk.z) (fs0 ++ raw)
    rw [List.length_map, List.length_append] at h2
    omega
  have HC := Lib.hid (same37_any A10 A11 c10 c11 q10 q11 w11 (own_row HI10b.out.row) (own_row hI11.row) HI10b.out.rows (hI11.rows hb11.size) hq10 (by rw [HZ10.out, hz11]))
  clear HI10 HI10b hb11 hz11 hI11 HG10 HF10 hq10 HZ10
  go_wp2_with fail
  refine HC.out.mono ?_
  clear HC
  rintro e w12 ⟨rfl, hb12⟩
  have HG12 := Lib.hid (Grew.trans HG11.out hb12)
  clear HG11 hb12
  have HC : Hid (Calls Try.prog 40 #[.slice A pl.length cap, .slice none 0 0] w12 (CarRes w12.heap.size (carryZ (pl.map Pk.z) []) w12)) := Lib.hid (
    carry37_any A cap pl none 0 [] w12 ((HR.out.up HG12.out (Nat.le_refl _)).more HG12.out.size) (HIn.out.up HG12.out) Row.nil (fun f hf => by cases hf) (by simp only [List.length_nil]; omega))
  go_wp2_with fail
  refine HC.out.mono ?_
  clear HC
  rintro e w13 ⟨A13, c13, q13, rfl, hz13, hI13, hb13⟩
  have HG13 := Lib.hid (Grew.trans HG12.out hb13)
  have hq13 : q13.length ≤ 9223372036854775807 := by
    have h1 := len_z hz13
    have h2 := carryZ_length (pl.map Pk.z) []
    rw [List.length_map, List.length_nil] at h2
    omega
  have HC := Lib.hid (same37_any A13 A c13 cap q13 pl w13 (own_row hI13.row) ((HR.out.up HG13.out (Nat.le_refl _)).more HG13.out.size) hI13.rows (HIn.out.up HG13.out).rows hq13 hz13)
  clear hb13 hz13 hI13 HG12 hq13
  go_wp2_with fail
  refine HC.out.mono ?_
  clear HC
  rintro e w14 ⟨rfl, hb14⟩
  have HG14 := Lib.hid (Grew.trans HG13.out hb14)
  clear HG13 hb14
  go_wp2_with fail
  go_ret
  exact ⟨rfl, HG14.out⟩
end Go.Proofs.Ytpoiejgoongllaa
