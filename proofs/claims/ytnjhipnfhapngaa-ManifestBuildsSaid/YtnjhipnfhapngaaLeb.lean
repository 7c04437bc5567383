/-
  codec.PutUint: numbers as bytes of seven bits, the lowest first.
-/
import Derived.Test.YtnjhipnfhapngaaPieces
import Derived.Laws.CopyOwn
namespace Go.Proofs.Ytnjhipnfhapngaa
set_option linter.unusedVariables false
set_option linter.unusedSimpArgs false
set_option linter.unnecessarySimpa false
open Go.RowKit
attribute [local go_sem ↓] Go.wp_at_zero Go.wp_at_succ

def leb : Nat → Nat → List Int
  | 0, _ => []
  | f + 1, n => if n < 128 then [(n : Int)] else ((128 + n % 128 : Nat) : Int) :: leb f (n / 128)
def lebN (n : Nat) : List Int := leb 10 n
theorem leb_small {f m : Nat} (h : m < 128) (hf : 1 ≤ f) : leb f m = [(m : Int)] := by
  obtain ⟨f, rfl⟩ : ∃ g, f = g + 1 := ⟨f - 1, by omega⟩
  rw [leb, if_pos h]
theorem leb_big {f m : Nat} (h : 128 ≤ m) (hf : 1 ≤ f) : leb f m = ((128 + m % 128 : Nat) : Int) :: leb (f - 1) (m / 128) := by
  obtain ⟨f, rfl⟩ : ∃ g, f = g + 1 := ⟨f - 1, by omega⟩
  rw [leb, if_neg (by omega)]
  rfl
/-- dn is put, m with f digits is to come -/
structure LebI (n m f : Nat) (dn : List Int) : Prop where
  eq : dn ++ leb f m = lebN n
  f1 : 1 ≤ f
  lt : m < 128 ^ f
  len : dn.length + f = 10
theorem LebI.zero {n : Nat} (h : n < 18446744073709551616) : LebI n n 10 [] := by
  have h1 : (128 : Nat) ^ 10 = 1180591620717411303424 := by decide
  exact ⟨rfl, by decide, by rw [h1]; omega, rfl⟩
theorem LebI.two {n m f : Nat} {dn : List Int} (h : LebI n m f dn) (hm : 128 ≤ m) : 2 ≤ f := by
  have h1 := h.f1
  have h2 := h.lt
  rcases Nat.lt_or_ge f 2 with h3 | h3
  · obtain rfl : f = 1 := by omega
    omega
  · exact h3
theorem LebI.step {n m f : Nat} {dn : List Int} (h : LebI n m f dn) (hm : 128 ≤ m) : LebI n (m / 128) (f - 1) (dn ++ [((128 + m % 128 : Nat) : Int)]) := by
  have h2 := h.two hm
  have hl := h.lt
  refine ⟨?_, by omega, ?_, by rw [List.length_append, List.length_singleton]; have := h.len; omega⟩
  · rw [List.append_assoc, ← h.eq, leb_big hm h.f1]; rfl
  · obtain ⟨g, rfl⟩ : ∃ g, f = g + 1 := ⟨f - 1, by omega⟩
    rw [Nat.pow_succ] at hl
    rw [Nat.add_sub_cancel]
    exact Nat.div_lt_of_lt_mul (by rw [Nat.mul_comm]; exact hl)
theorem LebI.done {n m f : Nat} {dn : List Int} (h : LebI n m f dn) (hm : m < 128) : lebN n = dn ++ [(m : Int)] := by rw [← h.eq, leb_small hm h.f1]
theorem leb_len : ∀ f n, (leb f n).length ≤ f
  | 0, _ => Nat.le_refl _
  | f + 1, n => by
    rw [leb]
    split
    · simp
    · simp only [List.length_cons]; have := leb_len f (n / 128); omega
theorem leb_byt : ∀ f n, Byt (leb f n)
  | 0, _ => fun z hz => by simp [leb] at hz
  | f + 1, n => fun z hz => by
    rw [leb] at hz
    split at hz
    · rw [List.mem_singleton] at hz; omega
    · rcases List.mem_cons.1 hz with hz | hz
      · omega
      · exact leb_byt f _ z hz
theorem and127 (m : Nat) (h : m < 18446744073709551616) : bits .and .u64 (m : Int) 127 = ((m % 128 : Nat) : Int) := by
  have h1 := bits_and_u64_nat m 127 h (by omega)
  have e : m &&& 127 = m % 128 := Nat.and_two_pow_sub_one_eq_mod m 7
  rw [e] at h1
  exact h1
theorem or128 (m : Nat) : bits .or .u64 ((m % 128 : Nat) : Int) 128 = ((128 + m % 128 : Nat) : Int) := by
  have h1 := bits_or_u64_nat (m % 128) 128 (by omega) (by omega)
  have e : m % 128 ||| 128 = 128 + m % 128 := by
    have := Nat.two_pow_add_eq_or_of_lt (i := 7) (b := m % 128) (by omega) 1
    rw [Nat.or_comm]
    simpa using this.symm
  rw [e] at h1
  exact h1

/-- bytes behind those of H -/
def LebRes (base : Nat) (H : Value) (l : List Int) (w : World) (e : Ending) (w' : World) : Prop := ∃ A cap, e = .returned (.slice A l.length cap) ∧ w'.ownsRow base 5 1 (.slice A l.length cap) l.length (l.map (.int .u8)) ∧ Ch (fun k => H.ownBlock = some k) w w'
set_option maxRecDepth 100000 in
set_option maxHeartbeats 1000000 in
theorem appendUint_any (n base : Nat) (H : Value) (bs : List Int) (w : World) (hown : w.ownsRow base 5 1 H bs.length (bs.map (.int .u8))) (hn : n < 18446744073709551616) (hbase : base ≤ w.heap.size) (hm : bs.length ≤ 1048576) :
    Calls Try.prog 77 #[H, .int .u64 n] w (LebRes base H (bs ++ lebN n) w) := by
  obtain ⟨A0, c0, rfl, _⟩ := own_form hown
  go_enter Try.func77, Try.ntmps77
  go_wp2_with fail
  go_loopw [0, 1] (fun v i wr => ∃ (m f : Nat) (dn : List Int) (A1 : Option Addr) (c1 : Nat), i = .int .u64 m ∧ Hid (LebI n m f dn) ∧ m ≤ n ∧ dn.length ≤ 10 ∧ v = .slice A1 (bs ++ dn).length c1 ∧ wr.ownsRow base 5 1 (.slice A1 (bs ++ dn).length c1) (bs ++ dn).length ((bs ++ dn).map (.int .u8)) ∧ Ch (fun k => (Value.slice A0 bs.length c0).ownBlock = some k) w wr ∧ ((Value.slice A1 (bs ++ dn).length c1).ownBlock = (Value.slice A0 bs.length c0).ownBlock ∨ ∀ k, (Value.slice A1 (bs ++ dn).length c1).ownBlock = some k → w.heap.size ≤ k)) (fun _ i _ => (intOf i).toNat)
  case atStart => exact ⟨n, 10, [], A0, c0, rfl, Lib.hid (LebI.zero hn), Nat.le_refl _, by simp, by rw [List.append_nil], by rw [List.append_nil]; exact hown, Ch.refl _ _, .inl (by rw [List.append_nil])⟩
  case round =>
    clear hown
    obtain ⟨m, f, dn, A1, c1, rfl, HI, hmn, hdl, rfl, hown, hch, hor⟩ := hrel
    have HL : Hid ((bs ++ dn).length = bs.length + dn.length) := Lib.hid List.length_append
    generalize hq : bs ++ dn = q at *
    have HQ := Lib.hid hq
    have hql : q.length ≤ 1048586 := by rw [HL.out]; omega
    clear hq
    have hws := hch.size
    by_cases hm : 128 ≤ m
    · have hmI : (128 : Int) ≤ (m : Int) := by omega
      have hA := and127 m (by omega)
      have hO := or128 m
      have hlt : (128 + m % 128 : Nat) ≤ 255 := by omega
      generalize hr : (128 + m % 128 : Nat) = r at *
      generalize h7 : (m % 128 : Nat) = r7 at *
      have H7 := Lib.hid h7
      clear h7
      have HR := Lib.hid hr
      have hw8 : IntKind.u8.wrap (r : Int) = r := Go.IntWalk.u8_in _ (by omega)
      clear hr
      go_wp2_with (at_builtin; refine wpList_append_row rfl (.tmp 9) (.tmp 14) rfl base elem_u8 (by rfl) (hown.alloc _) _ (by rfl) (by rfl) (Blk.row (Blk.new wr 5 #[.int .u8 (r : Int)])) (by simp [Value.oneCell']) (by unfold maxLen; omega) (by omega) (by simp; omega) ?_; intro A3 c3 w3 hown3 hg3 hwh3)
      go_roundw
      case rel =>
        have hs := HI.out.step hm
        rw [H7.out, HR.out] at hs
        have hdl2 := hs.len
        have hf2 := hs.f1
        have hga : Ch (fun k => (Value.slice A0 bs.length c0).ownBlock = some k) w (wr.alloc (.cells #[.int .u8 (r : Int)] 5)) := hch.alloc _
        refine ⟨m / 128, f - 1, dn ++ [(r : Int)], A3, c3, by go_num, Lib.hid hs, by omega, by omega, ?_, ?_, hga.nextNew (Ch.of_own hg3) (fun i hi => hor.elim (fun h => .inr (by rw [← h]; exact hi)) (fun h => .inl (h i hi))), ?_⟩
        · rw [← List.append_assoc, HQ.out, List.length_append]; rfl
        · rw [← List.append_assoc, HQ.out, List.length_append, List.map_append]; exact hown3
        · rw [← List.append_assoc, HQ.out, List.length_append]
          rcases hwh3 with h | h
          · exact hor.elim (fun h2 => .inl (h.trans h2)) (fun h2 => .inr (fun k hk => h2 k (h ▸ hk)))
          · refine .inr (fun k hk => ?_)
            have hk' := h.symm.trans hk
            injection hk' with hk'
            have := hga.size
            omega
      case measure => simp [intOf]; omega
    · have hw8 : IntKind.u8.wrap (m : Int) = m := Go.IntWalk.u8_in _ (by omega)
      have hmI : (m : Int) < 128 := by omega
      go_wp2_with (at_builtin; refine wpList_append_row rfl (.tmp 16) (.tmp 19) rfl base elem_u8 (by rfl) (hown.alloc _) _ (by rfl) (by rfl) (Blk.row (Blk.new wr 5 #[.int .u8 (m : Int)])) (by simp [Value.oneCell']) (by unfold maxLen; omega) (by omega) (by simp; omega) ?_; intro A3 c3 w3 hown3 hg3 hwh3)
      go_ret
      have hd := HI.out.done (by omega)
      have hga : Ch (fun k => (Value.slice A0 bs.length c0).ownBlock = some k) w (wr.alloc (.cells #[.int .u8 (m : Int)] 5)) := hch.alloc _
      rw [hd, ← List.append_assoc, HQ.out]
      refine ⟨A3, c3, by rw [List.length_append]; rfl, ?_, hga.nextNew (Ch.of_own hg3) (fun i hi => hor.elim (fun h => .inr (by rw [← h]; exact hi)) (fun h => .inl (h i hi)))⟩
      rw [List.length_append, List.map_append]
      exact hown3

set_option maxRecDepth 100000 in
set_option maxHeartbeats 1000000 in
theorem uintSize_any (n : Nat) (w : World) (hn : n < 18446744073709551616) :
    Calls Try.prog 79 #[.int .u64 n] w fun e w' => (∃ s : Nat, s ≤ 11 ∧ e = .returned (.int .i64 s)) ∧ w = w' := by
  go_enter Try.func79, Try.ntmps79
  go_wp2_with fail
  go_loop [0, 3] (fun v i => ∃ m s f : Nat, v = .int .u64 m ∧ i = .int .i64 s ∧ s + f ≤ 11 ∧ m < 128 ^ f) (fun v _ => (intOf v).toNat)
  case atStart =>
    refine ⟨n / 128, 1, 9, by go_num, rfl, by omega, ?_⟩
    have h1 : (128 : Nat) ^ 9 = 9223372036854775808 := by decide
    rw [h1]
    omega
  case round =>
    obtain ⟨m, s, f, rfl, rfl, hs, hm⟩ := hrel
    by_cases h0 : 0 < m
    · have hI : (0 : Int) < (m : Int) := by omega
      obtain ⟨f, rfl⟩ : ∃ g, f = g + 1 := ⟨f - 1, by
        rcases Nat.eq_zero_or_pos f with h | h
        · subst h; simp at hm; omega
        · omega⟩
      have hm2 : m / 128 < 128 ^ f := Nat.div_lt_of_lt_mul (by rw [Nat.mul_comm, ← Nat.pow_succ]; exact hm)
      have HM := Lib.hid hm2
      clear hm hm2
      go_wp2_with fail
      go_round
      case rel => exact ⟨m / 128, s + 1, f, by go_num, by go_num, by omega, HM.out⟩
      case measure => simp [intOf]; omega
    · obtain rfl : m = 0 := by omega
      clear hm
      go_wp2_with fail
      go_ret
      exact ⟨⟨s, by omega, rfl⟩, rfl⟩

set_option maxRecDepth 100000 in
set_option maxHeartbeats 1000000 in
theorem extendedNil_any (s : Nat) (w : World) (hs : s ≤ 1048576) :
    Calls Try.prog 78 #[.slice none 0 0, .int .i64 s] w fun e w' => ∃ A cap, e = .returned (.slice A 0 cap) ∧ w'.ownsRow w.heap.size 5 1 (.slice A 0 cap) 0 [] ∧ Below w.heap.size w w' := by
  obtain ⟨i0, hi, hz0, hz1, hz2⟩ := info_parts (show (Try.prog.info? 5).map (fun i => (i.zero, i.size, i.bytes)) = some (some (.int .u8 0), 1, 1) from by kernel_rfl)
  go_enter Try.func78, Try.ntmps78
  go_wp2_with (first
    | (at_make; refine wpList_make_own _ rfl (.tmp 7) (.tmp 11) 34 rfl w.heap.size 5 i0 (.int .u8 0) 1 Try.underlying34 hi hz0 hz1 .i64 .i64 _ s rfl rfl rfl (by rw [hz2]; omega) (by unfold maxLen; omega) (Nat.le_refl _) ?_; intro w1 hown hgrow)
    | (refine wpList_copy_nothing rfl (.tmp 13) (.tmp 14) 34 34 rfl 5 Try.underlying34 (by kernel_rfl) _ none 0 s 0 0 rfl rfl rfl ?_))
  go_ret
  exact ⟨_, s, rfl, hown, (Below.refl _ _).grown hgrow (Nat.le_refl _) (by simp)⟩

set_option maxRecDepth 100000 in
set_option maxHeartbeats 1000000 in
theorem putUint_any (n : Nat) (w : World) (hn : n < 18446744073709551616) :
    Calls Try.prog 59 #[.slice none 0 0, .int .u64 n] w fun e w' => ∃ A cap, e = .returned (.slice A (lebN n).length cap) ∧ w'.ownsRow w.heap.size 5 1 (.slice A (lebN n).length cap) (lebN n).length ((lebN n).map (.int .u8)) ∧ Below w.heap.size w w' := by
  go_enter Try.func59, Try.ntmps59
  go_wp2_with fail
  refine (uintSize_any n w hn).mono ?_
  rintro e w1 ⟨⟨s, hs, rfl⟩, rfl⟩
  go_wp2_with fail
  refine (extendedNil_any s w (by omega)).mono ?_
  rintro e w2 ⟨A, cap, rfl, hown, hb⟩
  have HA := Lib.hid (appendUint_any n w.heap.size (.slice A 0 cap) [] w2 hown hn hb.size (by simp))
  go_wp2_with fail
  refine HA.out.mono ?_
  rintro e w3 ⟨A3, c3, rfl, hown3, hch⟩
  rw [List.nil_append] at hown3 ⊢
  go_wp2_with fail
  go_ret
  exact ⟨A3, c3, rfl, hown3, Below.trans (B := w.heap.size) hb (hch.below hb.size (own_lt hown))⟩

end Go.Proofs.Ytnjhipnfhapngaa
