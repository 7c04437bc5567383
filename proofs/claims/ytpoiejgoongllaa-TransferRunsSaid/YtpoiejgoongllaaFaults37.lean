/-
  stockyardlaw37.faults: lists of faults out of the tape.
-/
import Derived.Test.YtpoiejgoongllaaRunAll37
namespace Go.Proofs.Ytpoiejgoongllaa
set_option linter.unusedVariables false
set_option linter.unusedSimpArgs false
set_option linter.unnecessarySimpa false
open Go.RowKit
attribute [local go_sem ↓] Go.wp_at_zero Go.wp_at_succ

theorem elem_fault : Elem Try.prog 84 93 3 24 := elem_mk (z := .agg #[.int .i64 0, .int .i64 0, .int .i64 0]) Try.underlying84 (by kernel_rfl) rfl (by omega)
theorem elem_faults : Elem Try.prog 36 84 1 24 := elem_mk (z := .slice none 0 0) Try.underlying36 (by kernel_rfl) rfl (by omega)
/-- a fault as the tape gives it -/
def FtD (f : FtZ) : Prop := 0 ≤ f.at_ ∧ f.at_ < 5 ∧ -4 ≤ f.by_ ∧ f.by_ < 26
theorem FtD.ok {f : FtZ} (h : FtD f) : FtOk f := by obtain ⟨h1, h2, h3, h4⟩ := h; unfold FtOk; omega
/-- lists of faults, each in a block of its own -/
def FlIs (w : World) (base : Nat) (fl : List Fts) : Prop := ∀ f ∈ fl, w.ownsRow base 93 3 f.v f.fs.length (ftsC f.fs)
def FlD (fl : List Fts) : Prop := ∀ f ∈ fl, f.fs.length ≤ 3 ∧ ∀ x ∈ f.fs, FtD x
theorem FlIs.ch {S : Nat → Prop} {w w' : World} {base : Nat} {fl : List Fts} (h : FlIs w base fl) (k : Ch S w w') (hS : ∀ f ∈ fl, ∀ i, f.v.ownBlock = some i → ¬ S i) : FlIs w' base fl := fun f hf => own_ch (h f hf) k (hS f hf)
theorem FlIs.row {w : World} {base : Nat} {fl : List Fts} (h : FlIs w base fl) : ∀ f ∈ fl, Row w w.heap.size f.A (ftsC f.fs) := fun f hf => own_row (h f hf)
def FaultsRes (t B M n : Nat) (w : World) (e : Ending) (w' : World) : Prop := ∃ (A : Option Addr) (cap : Nat) (fl : List Fts), e = .returned (.slice A fl.length cap) ∧ fl.length = 2 * n ∧ FlD fl ∧
  w'.ownsRow w.heap.size 84 1 (.slice A fl.length cap) fl.length (fl.map Fts.v) ∧ FlIs w' w.heap.size fl ∧ Tp w' t B (M + 20 * n) ∧ Ch (At t) w w'
theorem ftsC_one (x : FtZ) : ftsC [x] = ftC x := by simp [ftsC]
theorem ones_ft (x : FtZ) : ∀ u ∈ ftC x, u.oneCell' = true := by
  intro u hu
  simp only [ftC, List.mem_cons, List.not_mem_nil, or_false] at hu
  rcases hu with rfl | rfl | rfl <;> rfl

set_option maxRecDepth 100000 in
set_option maxHeartbeats 4000000 in
theorem faults37_any (t B M n : Nat) (w : World) (hT : Tp w t B M) (hn : n ≤ 1000) (hM : M ≤ 281474976710656) :
    Calls Try.prog 16 #[.pointer (some ⟨t, 0, none⟩), .int .i64 n] w (FaultsRes t B M n w) := by
  have hlt0 := hT.lt
  have hBw : B ≤ w.heap.size := by have h1 := hT.le; omega
  have hw2 : wrap64 (2 * (n : Int)) = ((2 * n : Nat) : Int) := by rw [Go.IntWalk.wrap64_in _ (by omega)]; omega
  go_enter Try.func16, Try.ntmps16
  go_wp2_with fail
  go_loopw [5, 6] (fun v i wr => ∃ (k : Nat) (fl : List Fts) (A : Option Addr) (cap : Nat), k ≤ 2 * n ∧ i = .int .i64 k ∧ fl.length = k ∧ v = .slice A k cap ∧ FlD fl ∧ wr.ownsRow w.heap.size 84 1 (.slice A k cap) k (fl.map Fts.v) ∧ FlIs wr w.heap.size fl ∧ Tp wr t B (M + 10 * k) ∧ Ch (At t) w wr) (fun _ i _ => 2 * n - (intOf i).toNat)
  case atStart => exact ⟨0, [], none, 0, Nat.zero_le _, rfl, rfl, rfl, fun f hf => (by cases hf), World.ownsRow_nil _ _ _ _, fun f hf => (by cases hf), hT, Ch.refl _ _⟩
  case round =>
    clear hT
    obtain ⟨k, fl, A, cap, hk, rfl, hfl, rfl, hD, hown, hF, hT, hch⟩ := hrel
    have HFl := Lib.hid hfl
    have HD := Lib.hid hD
    have HF := Lib.hid hF
    have HO := Lib.hid hown
    have HCh := Lib.hid hch
    have HT0 := Lib.hid hT
    obtain ⟨wr0, hwr0⟩ : ∃ x, x = wr := ⟨_, rfl⟩
    subst hwr0
    clear hfl hD hF hown hch
    have hIk : ((2 * n : Nat) : Int) = 2 * (n : Int) := by omega
    by_cases hlt : k < 2 * n
    · have hltI : (k : Int) < ((2 * n : Nat) : Int) := by omega
      go_wp2_with fail
      refine (tapeNext_any t B _ 4 _ hT (by omega) (by omega)).mono ?_
      rintro e w1 ⟨x, rfl, hx, hT1, hch1⟩
      have y1 : x ≤ 3 := by omega
      have HC1 := Lib.hid hch1
      clear hch1 hx hT
      go_wp2_with fail
      go_loopw [7, 8] (fun v i wr2 => ∃ (j : Nat) (fs : List FtZ) (A2 : Option Addr) (cap2 : Nat), i = .int .i64 j ∧ fs.length + j ≤ 3 ∧ v = .slice A2 fs.length cap2 ∧ (∀ f ∈ fs, FtD f) ∧ wr2.ownsRow w1.heap.size 93 3 (.slice A2 fs.length cap2) fs.length (ftsC fs) ∧ Tp wr2 t B (M + 10 * k + 1 + 3 * fs.length) ∧ Ch (At t) w1 wr2) (fun _ i _ => (intOf i).toNat)
      case atStart => exact ⟨x, [], none, 0, rfl, by simpa using y1, rfl, fun f hf => (by cases hf), World.ownsRow_nil _ _ _ _, hT1, Ch.refl _ _⟩
      case round =>
        clear hT1
        obtain ⟨j, fs, A2, cap2, rfl, hj, rfl, hfd, hown2, hT2, hch2⟩ := hrel
        by_cases hj0 : 0 < j
        · obtain ⟨j', rfl⟩ : ∃ j', j = j' + 1 := ⟨j - 1, by omega⟩
          have hj1 : (0 : Int) < ((j' + 1 : Nat) : Int) := by omega
          have HFD := Lib.hid hfd
          clear hfd
          have hot : ∀ i, (Value.slice A2 fs.length cap2).ownBlock = some i → i ≠ t := fun i hi h => by
            obtain ⟨_, _, _, _, hBt, _⟩ := hT2.ex
            subst h
            exact own_blk_ne hown2 hBt (by decide) hi
          have HOT := Lib.hid hot
          clear hot
          go_wp2_with fail
          refine (tapeNext_any _ _ _ 6 _ hT2 (by omega) (by omega)).mono ?_
          rintro e w3 ⟨x3, rfl, hx3, hT3, hch3⟩
          have y3 : x3 < 6 := by omega
          have HA3 := Lib.hid hch3
          clear hch3 hx3
          go_wp2_with fail
          refine (tapeNext_any _ _ _ 5 _ hT3 (by omega) (by omega)).mono ?_
          rintro e w4 ⟨x4, rfl, hx4, hT4, hch4⟩
          have y4 : x4 < 5 := by omega
          have HA4 := Lib.hid (HA3.out.trans hch4)
          clear hch4 hx4 hT3 HA3
          go_wp2_with fail
          refine (tapeNext_any _ _ _ 30 _ hT4 (by omega) (by omega)).mono ?_
          rintro e w5 ⟨x5, rfl, hx5, hT5, hch5⟩
          have y5 : x5 < 30 := by omega
          have hA5 := HA4.out.trans hch5
          clear hch5 hx5 hT4 HA4
          obtain ⟨b, hb⟩ : ∃ b : Int, (x5 : Int) - 4 = b := ⟨_, rfl⟩
          have hbb : -4 ≤ b ∧ b < 26 := by omega
          have hwb : wrap64 ((x5 : Int) - 4) = b := by rw [hb]; exact Go.IntWalk.wrap64_in _ (by omega)
          have hwb2 : IntKind.i64.wrap ((x5 : Int) - 4) = b := by rw [hb]; exact Go.IntWalk.i64_in _ (by omega)
          have HFX : Hid (FtD ⟨x3, x4, b⟩) := Lib.hid ⟨by simp only; omega, by simp only; omega, hbb.1, hbb.2⟩
          clear hb hbb
          have hga := grew_alloc w5 (.cells #[.int .i64 x3, .int .i64 x4, .int .i64 b] 93)
          have HR := Lib.hid (Blk.row (Blk.new w5 93 #[.int .i64 x3, .int .i64 x4, .int .i64 b]))
          have hA7 := hA5.next hga
          have hO7 := own_ch hown2 hA7 (fun i hi h => HOT.out i hi h)
          have hT7 := hT5.of hga
          have hw7 : w1.heap.size ≤ (w5.alloc (.cells #[.int .i64 x3, .int .i64 x4, .int .i64 b] 93)).heap.size := Nat.le_trans hch2.size hA7.size
          have HX : Hid (∀ (A8 : Option Addr) (c8 : Nat) (w8 : World), w8.ownsRow w1.heap.size 93 3 (.slice A8 (fs.length + 1) c8) (fs.length + 1) (ftsC fs ++ ftC ⟨x3, x4, b⟩) → (w5.alloc (.cells #[.int .i64 x3, .int .i64 x4, .int .i64 b] 93)).grownBy w8 (Value.slice A2 fs.length cap2).ownBlock →
              w8.ownsRow w1.heap.size 93 3 (.slice A8 (fs.length + 1) c8) (fs.length + 1) (ftsC (fs ++ [⟨x3, x4, b⟩])) ∧ Tp w8 t B (M + 10 * k + 1 + 3 * (fs.length + 1)) ∧ Ch (At t) w1 w8) := Lib.hid (fun A8 c8 w8 h1 h2 =>
            ⟨by rw [ftsC_append, ftsC_one]; exact h1, (tape_own hT7 hO7 h2 (by decide) (by have h1 := HC1.out.size; have h2 := HCh.out.size; omega)).more (by omega), (hch2.trans hA7).nextNew (Ch.of_own h2) (fun i hi => .inl (own_lt hO7 i hi))⟩)
          have HD8 : Hid (∀ f ∈ fs ++ [⟨x3, x4, b⟩], FtD f) := Lib.hid (fun f hf => by
            rcases List.mem_append.1 hf with h | h
            · exact HFD.out f h
            · rw [List.mem_singleton] at h; subst h; exact HFX.out)
          clear hA5 hA7 hT5 hT7 hga hown2 hch2 hT2
          go_wp2_with (at_builtin; refine wpList_append_row rfl (.tmp 21) (.tmp 30) rfl w1.heap.size elem_fault (by rfl) hO7 _ (by rfl) (by rfl) HR.out (ones_ft ⟨x3, x4, b⟩) (by unfold maxLen; omega) (by omega) hw7 ?_; intro A8 c8 w8 hown8 hg8 _)
          obtain ⟨hO8, hT8, hch8⟩ := HX.out A8 c8 w8 hown8 hg8
          clear hown8 hg8 HX hO7 hwb hwb2
          go_roundw
          case rel => exact ⟨j', fs ++ [⟨x3, x4, b⟩], A8, c8, by go_num, by rw [List.length_append, List.length_singleton]; omega, by rw [List.length_append]; rfl, HD8.out, by rw [List.length_append]; exact hO8, by rw [List.length_append, List.length_singleton]; exact hT8, hch8⟩
          case measure => simp [intOf] <;> omega
        · obtain rfl : j = 0 := by omega
          have hj1 : ¬ (0 : Int) < ((0 : Nat) : Int) := by omega
          have hall := HC1.out.trans hch2
          have hnt : ∀ {base : Nat} {e : TypeId} {size n : Nat} {v : Value} {xs : List Value}, wr0.ownsRow base e size v n xs → e ≠ 25 → wr.ownsRow base e size v n xs := fun ho he => own_ch ho hall (fun i hi h => by
            obtain ⟨_, _, _, _, hBt, _⟩ := HT0.out.ex
            have h2 : i = t := h
            subst h2
            exact own_blk_ne ho hBt he hi)
          have hO8 := hnt HO.out (by decide)
          have hF8 : FlIs wr w.heap.size fl := fun f hf => hnt (HF.out f hf) (by decide)
          have hs1 : w.heap.size ≤ w1.heap.size := Nat.le_trans HCh.out.size HC1.out.size
          have hs2 : w.heap.size ≤ wr.heap.size := Nat.le_trans hs1 hch2.size
          have hga := grew_alloc wr (.cells #[.slice A2 fs.length cap2] 84)
          have HR := Lib.hid (Blk.row (Blk.new wr 84 #[.slice A2 fs.length cap2]))
          have hO9 := own_below hO8 hga
          have hT9 := hT2.of hga
          have HX : Hid (∀ (A8 : Option Addr) (c8 : Nat) (w8 : World), w8.ownsRow w.heap.size 84 1 (.slice A8 (k + 1) c8) (k + 1) (fl.map Fts.v ++ [.slice A2 fs.length cap2]) → (wr.alloc (.cells #[.slice A2 fs.length cap2] 84)).grownBy w8 (Value.slice A k cap).ownBlock →
              w8.ownsRow w.heap.size 84 1 (.slice A8 (k + 1) c8) (k + 1) ((fl ++ [(⟨A2, cap2, fs⟩ : Fts)]).map Fts.v) ∧ FlIs w8 w.heap.size (fl ++ [⟨A2, cap2, fs⟩]) ∧ Tp w8 t B (M + 10 * (k + 1)) ∧ Ch (At t) w w8) := Lib.hid (fun A8 c8 w8 h1 h2 => by
            have hne : ∀ {base : Nat} {e : TypeId} {size n : Nat} {v : Value} {xs : List Value}, wr.ownsRow base e size v n xs → e ≠ 84 → w8.ownsRow base e size v n xs := fun ho he => own_ch (own_below ho hga) (Ch.of_own h2) (fun i hi h => own_own_ne (own_below ho hga) hO9 he i hi h)
            refine ⟨by rw [List.map_append]; exact h1, fun f hf => ?_, (tape_own hT9 hO9 h2 (by decide) (by omega)).more (by omega), ((HCh.out.trans hall).next hga).nextNew (Ch.of_own h2) (fun i hi => .inl (own_lt hO9 i hi))⟩
            rcases List.mem_append.1 hf with h | h
            · exact hne (hF8 f h) (by decide)
            · rw [List.mem_singleton] at h; subst h; exact own_mono (hne hown2 (by decide)) hs1)
          have HD8 : Hid (FlD (fl ++ [⟨A2, cap2, fs⟩])) := Lib.hid (fun f hf => by
            rcases List.mem_append.1 hf with h | h
            · exact HD.out f h
            · rw [List.mem_singleton] at h; subst h; exact ⟨by simp only; omega, hfd⟩)
          have hfl1 : (fl ++ [(⟨A2, cap2, fs⟩ : Fts)]).length = k + 1 := by rw [List.length_append, HFl.out]; rfl
          have HF1 := Lib.hid hfl1
          have hs3 : w.heap.size ≤ (wr.alloc (.cells #[.slice A2 fs.length cap2] 84)).heap.size := Nat.le_trans hs2 hga.size
          clear hfl1 hnt hall hO8 hF8 hT9 hga hown2 hch2 hT2 hfd
          go_wp2_with (at_builtin; refine wpList_append_row rfl (.tmp 32) (.tmp 34) rfl w.heap.size elem_faults (by rfl) hO9 _ (by rfl) (by rfl) HR.out (by simp [Value.oneCell']) (by unfold maxLen; omega) (by omega) hs3 ?_; intro A8 c8 w8 hown8 hg8 _)
          obtain ⟨h1, h2, h3, h4⟩ := HX.out A8 c8 w8 hown8 hg8
          clear hown8 hg8 HX hO9
          go_roundw
          case rel => exact ⟨k + 1, fl ++ [⟨A2, cap2, fs⟩], A8, c8, by omega, by go_num, HF1.out, rfl, HD8.out, h1, h2, h3, h4⟩
          case measure => simp [intOf]; omega
    · obtain rfl : k = 2 * n := by omega
      go_wp2_with fail
      go_ret
      exact ⟨A, cap, fl, by rw [HFl.out]; rfl, HFl.out, HD.out, by rw [HFl.out]; exact HO.out, HF.out, hT.more (by omega), HCh.out⟩
end Go.Proofs.Ytpoiejgoongllaa
