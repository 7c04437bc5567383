/-
  codec.Uint and ref01.TakeUint: both read the same number, or none.
-/
import Derived.Test.YtnjhipnfhapngaaKnown25
namespace Go.Proofs.Ytnjhipnfhapngaa
section
set_option linter.unusedVariables false
set_option linter.unusedSimpArgs false
set_option linter.unnecessarySimpa false
open Go.RowKit
attribute [local go_sem ↓] Go.wp_at_zero Go.wp_at_succ

/-- the number that begins here: i bytes of it, worth v, are behind -/
def unA : Nat → Nat → List Nat → Option (Nat × Nat)
  | _, _, [] => none
  | i, v, c :: cs => if i = 9 ∧ c ≠ 1 then none else if 128 ≤ c then unA (i + 1) (v + c % 128 * 128 ^ i) cs else if c = 0 ∧ 0 < i then none else some (v + c % 128 * 128 ^ i, i + 1)
theorem unA_long : ∀ (cs : List Nat) (i v : Nat), (∀ c ∈ cs, 128 ≤ c) → unA i v cs = none := by
  intro cs
  induction cs with
  | nil => intro i v _; rfl
  | cons c cs ih =>
    intro i v h
    have hc := h c (List.mem_cons_self ..)
    unfold unA
    split
    · rfl
    · exact ih _ _ (fun x hx => h x (List.mem_cons_of_mem _ hx))
theorem pow128 : ∀ i, (128 : Nat) ^ i = 2 ^ (7 * i) := fun i => by rw [show (128 : Nat) = 2 ^ 7 from rfl, ← Nat.pow_mul]
/-- the loop's state: k bytes read, worth v -/
structure UnI (l : List Nat) (k v : Nat) : Prop where
  le : k ≤ l.length
  k9 : k ≤ 9
  lt : v < 128 ^ k
  eq : unA 0 0 l = unA k v (l.drop k)
theorem UnI.zero (l : List Nat) : UnI l 0 0 := ⟨Nat.zero_le _, by omega, by simp, by simp⟩
theorem UnI.short {l : List Nat} {k v : Nat} (h : UnI l k v) (hk : k = l.length) : unA 0 0 l = none := by
  rw [h.eq, hk, List.drop_length]; rfl
theorem UnI.bad9 {l : List Nat} {k v : Nat} (h : UnI l k v) (hk : k < l.length) (h9 : k = 9) (hc : l[k] ≠ 1) : unA 0 0 l = none := by
  rw [h.eq, List.drop_eq_getElem_cons hk]; unfold unA; rw [if_pos ⟨h9, hc⟩]
theorem UnI.zer {l : List Nat} {k v : Nat} (h : UnI l k v) (hk : k < l.length) (h9 : 0 < k) (hc : l[k] = 0) : unA 0 0 l = none := by
  rw [h.eq, List.drop_eq_getElem_cons hk]; unfold unA
  split
  · rfl
  · rw [if_neg (by omega), if_pos ⟨hc, h9⟩]
theorem UnI.done {l : List Nat} {k v : Nat} (h : UnI l k v) (hk : k < l.length) (h9 : k = 9 → l[k] = 1) (hc : l[k] < 128) (hz : l[k] = 0 → k = 0) : unA 0 0 l = some (v + l[k] * 128 ^ k, k + 1) := by
  rw [h.eq, List.drop_eq_getElem_cons hk]; unfold unA
  rw [if_neg (fun hh => hh.2 (h9 hh.1)), if_neg (by omega), if_neg (fun hh => by have := hz hh.1; omega), Nat.mod_eq_of_lt hc]
theorem UnI.step {l : List Nat} {k v : Nat} (h : UnI l k v) (hk : k < l.length) (h9 : k ≠ 9) (hc : 128 ≤ l[k]) : UnI l (k + 1) (v + l[k] % 128 * 128 ^ k) := by
  have hk9 := h.k9
  refine ⟨hk, by omega, ?_, ?_⟩
  · have h1 := h.lt
    have h2 : l[k] % 128 ≤ 127 := by omega
    have h3 : l[k] % 128 * 128 ^ k ≤ 127 * 128 ^ k := Nat.mul_le_mul_right _ h2
    rw [Nat.pow_succ]
    omega
  · rw [h.eq, List.drop_eq_getElem_cons hk]
    conv => lhs; unfold unA
    rw [if_neg (fun hh => h9 hh.1), if_pos hc]
/-- the value fits -/
theorem UnI.fit {l : List Nat} {k v m : Nat} (h : UnI l k v) (hm : m < 128) (h9 : k = 9 → m ≤ 1) : v + m * 128 ^ k < 18446744073709551616 ∧ m * 128 ^ k < 18446744073709551616 := by
  have h1 := h.lt
  have h2 := h.k9
  by_cases hk : k = 9
  · subst hk
    have := h9 rfl
    have e : (128 : Nat) ^ 9 = 9223372036854775808 := by decide
    rw [e] at h1 ⊢
    omega
  · have h3 : (128 : Nat) ^ k ≤ 128 ^ 8 := Nat.pow_le_pow_right (by omega) (by omega)
    have e : (128 : Nat) ^ 8 = 72057594037927936 := by decide
    rw [e] at h3
    have h4 : m * 128 ^ k ≤ 127 * 128 ^ k := Nat.mul_le_mul_right _ (by omega)
    omega
theorem or_group {v m k : Nat} (h : v < 128 ^ k) : v ||| m * 128 ^ k = v + m * 128 ^ k := by
  rw [pow128] at *
  have := Nat.two_pow_add_eq_or_of_lt (i := 7 * k) (b := v) h m
  rw [Nat.or_comm, Nat.mul_comm, ← this, Nat.add_comm]
theorem and127b {c : Nat} (h : c < 256) : bits .and .u8 (c : Int) 127 = ((c % 128 : Nat) : Int) := by
  have H : ∀ c : Fin 256, bits .and .u8 ((c.val : Nat) : Int) 127 = ((c.val % 128 : Nat) : Int) := by decide +kernel
  exact H ⟨c, h⟩
/-- what both say of the bytes behind at -/
def UnRes (l : List Nat) (a : Nat) (e : Ending) : Prop :=
  (∃ v n : Nat, unA 0 0 (l.drop a) = some (v, n) ∧ v < 18446744073709551616 ∧ a + n ≤ l.length ∧ e = .returned (.tuple #[.int .u64 v, .int .i64 ((a + n : Nat) : Int), .int .i64 0])) ∨
  (∃ x : Int, unA 0 0 (l.drop a) = none ∧ 10 ≤ x ∧ x ≤ 12 ∧ e = .returned (.tuple #[.int .u64 0, .int .i64 0, .int .i64 x]))
def OpenRes (l : List Nat) (e : Ending) : Prop := ∃ b : Bool, e = .returned (.bool b) ∧ (b = true → ∀ c ∈ l, 128 ≤ c)
def bysN (l : List Nat) : List Value := l.map fun n : Nat => Value.int .u8 (n : Int)
theorem bysN_len (l : List Nat) : (bysN l).length = l.length := by simp [bysN]
theorem bysN_at {w : World} {B : Nat} {A : Option Addr} {l : List Nat} (hr : Row w B A (bysN l)) {k : Nat} (h : k < l.length) : ∃ ad : Addr, A = some ad ∧ ad.block < B ∧ w.cell? (ad.add k) = some (.int .u8 (l[k] : Nat)) := by
  obtain ⟨ad, rfl, hb, hc⟩ := hr.at_ (k := k) (by rw [bysN_len]; exact h)
  exact ⟨ad, rfl, hb, hc.trans (by simp [bysN])⟩

set_option maxRecDepth 100000 in
set_option maxHeartbeats 1000000 in
theorem uint_any (A : Option Addr) (cap B : Nat) (l : List Nat) (a : Nat) (w : World) (hr : Row w B A (bysN l)) (hb : ∀ c ∈ l, c < 256) (hc : l.length ≤ cap) (hm : l.length ≤ 4611686018427387904) (ha : a ≤ l.length) :
    Calls Try.prog 62 #[.slice A l.length cap, .int .i64 (a : Nat)] w fun e w' => UnRes l a e ∧ w' = w := by
  have hcI : (l.length : Int) ≤ (cap : Int) := by omega
  by_cases hal : a = l.length
  · have HN : Hid (unA 0 0 (l.drop a) = none) := Lib.hid (by rw [hal, List.drop_length]; rfl)
    subst hal
    rcases (by omega : cap = l.length ∨ l.length < cap) with hcl | hcl
    all_goals
      try subst hcl
      go_enter Try.func62, Try.ntmps62
      go_wp2_with fail
      go_loopw [21] (fun i wr => i = .int .i64 0 ∧ wr = w) (fun _ _ => 0)
      case atStart => exact ⟨rfl, rfl⟩
      case round =>
        obtain ⟨rfl, rfl⟩ := hrel
        go_wp2_with fail
        go_ret3
        exact ⟨.inr ⟨11, HN.out, by omega, by omega, rfl⟩, rfl⟩
  · have hal2 : a < l.length := by omega
    clear hal
    have haI : (a : Int) < (l.length : Int) := by omega
    have hca : ¬ cap = a := by omega
    have hnl : ¬ l.length < a := by omega
    have hn0 : ¬ (a : Int) < 0 := by omega
    go_enter Try.func62, Try.ntmps62
    go_wp2_with fail
    have e1 : decide (l.length < a) = false := decide_eq_false (by omega)
    have e2 : decide ((a : Int) < 0) = false := decide_eq_false (by omega)
    try simp only [e1, e2, Bool.or_self, Bool.or_false]
    have hdl : (l.drop a).length = l.length - a := by simp
    generalize hrr : l.length - a = r at *
    have HR := Lib.hid hrr
    have hrI : (r : Int) ≤ 4611686018427387904 := by omega
    clear hrr
    go_loopw [4, 21] (fun v i wr => ∃ k m : Nat, i = .int .i64 k ∧ v = .int .u64 m ∧ UnI (l.drop a) k m ∧ wr = w) (fun _ i _ => r - (intOf i).toNat)
    case atStart => exact ⟨0, 0, rfl, rfl, UnI.zero _, rfl⟩
    case round =>
      obtain ⟨k, m, rfl, rfl, HU, rfl⟩ := hrel
      have HU := Lib.hid HU
      have hk9 := HU.out.k9
      have hkr := HU.out.le
      rw [hdl] at hkr
      by_cases hlt : k < r
      · have hj : a + k < l.length := by have := HR.out; omega
        obtain ⟨ad, rfl, hbk, d0⟩ := bysN_at hr hj
        have e1 : ad.add (a + k) = (ad.add a).add k := (add_add ad a k).symm
        rw [e1] at d0
        have hkd : k < (l.drop a).length := by omega
        have hcE : Hid ((l.drop a)[k] = l[a + k]) := Lib.hid (by rw [List.getElem_drop])
        have hcb := hb _ (List.getElem_mem hj)
        generalize l[a + k] = c at *
        clear e1
        have hltI : (k : Int) < (r : Int) := by omega
        have haI0 : (a : Int) ≤ 4611686018427387904 := by omega
        by_cases h9 : k = 9 ∧ c ≠ 1
        · have HN := HU.out.bad9 hkd h9.1 (by rw [hcE.out]; exact h9.2)
          have HN := Lib.hid HN
          obtain ⟨h9, hc1⟩ := h9
          have hc1I : ¬ (c : Int) = 1 := by omega
          subst h9
          have d9 : wr.cell? ⟨(ad.add a).block, (ad.add a).off + 9, none⟩ = some (.int .u8 (c : Nat)) := d0
          clear d0
          go_wp2_with fail
          go_ret3
          exact ⟨.inr ⟨12, HN.out, by omega, by omega, rfl⟩, rfl⟩
        · have hA := and127b hcb
          generalize hq : c % 128 = q at *
          have HQ := Lib.hid hq
          have hql : q < 128 := by omega
          have hqw : IntKind.u64.wrap (q : Int) = q := Go.IntWalk.u64_in _ (by omega)
          have h70 : (7 : Int) * (k : Int) ≤ 63 := by omega
          have h71 : (0 : Int) ≤ 7 * (k : Int) := by omega
          have h72 : ((7 : Int) * (k : Int)).toNat = 7 * k := by omega
          have hfit := HU.out.fit hql (fun h => by
            have h1 : c = 1 := by false_or_by_contra; exact h9 ⟨h, by omega⟩
            omega)
          have hV : bits .or .u64 (m : Int) (IntKind.u64.wrap ((q : Int) * 2 ^ (7 * k))) = ((m + q * 128 ^ k : Nat) : Int) := by
            have e1 : (q : Int) * 2 ^ (7 * k) = ((q * 128 ^ k : Nat) : Int) := by rw [pow128]; push_cast; rfl
            rw [e1, Go.IntWalk.u64_in _ (by omega), bits_or_u64_nat _ _ (by omega) hfit.2, or_group HU.out.lt]
          have hs := hfit.1
          generalize hss : m + q * 128 ^ k = s at *
          have HS := Lib.hid hss
          clear hq hss hfit
          by_cases h99 : k = 9
          · have hc1 : c = 1 := by false_or_by_contra; exact h9 ⟨h99, by omega⟩
            have hq1 : q = 1 := by rw [← HQ.out, hc1]
            have HD := Lib.hid (HU.out.done hkd (fun _ => by rw [hcE.out]; exact hc1) (by rw [hcE.out]; omega) (fun h => by rw [hcE.out] at h; omega))
            subst h99 hq1 hc1
            rw [show ((1 : Nat) : Int) = 1 from rfl] at hA
            have hw1 : IntKind.u64.wrap 1 = 1 := by decide
            have hw2 : IntKind.u64.wrap 9223372036854775808 = 9223372036854775808 := by decide
            have hV9 : bits .or .u64 (m : Int) 9223372036854775808 = (s : Int) := by rw [← hV]; rfl
            have d9 : wr.cell? ⟨(ad.add a).block, (ad.add a).off + 9, none⟩ = some (.int .u8 1) := d0
            clear d0
            go_wp2_with fail
            go_ret3
            rw [hcE.out, HS.out] at HD
            exact ⟨.inl ⟨s, 9 + 1, HD.out, hs, by omega, rfl⟩, rfl⟩
          · have h99I : ¬ (k : Int) = 9 := by omega
            by_cases hc128 : 128 ≤ c
            · have hcI : (128 : Int) ≤ (c : Int) := by omega
              go_wp2_with fail
              refine ⟨?_, ?measure⟩
              (repeat apply Exists.intro); refine ⟨?rel, rfl⟩
              case rel =>
                have hst := HU.out.step hkd h99 (by rw [hcE.out]; exact hc128)
                rw [hcE.out, HQ.out, HS.out] at hst
                exact ⟨k + 1, s, by go_num, rfl, hst, trivial⟩
              case measure => simp [intOf]; omega
            · have hcI : ¬ (128 : Int) ≤ (c : Int) := by omega
              by_cases hz : c = 0 ∧ 0 < k
              · have HN := Lib.hid (HU.out.zer hkd hz.2 (by rw [hcE.out]; exact hz.1))
                obtain ⟨hz, hk0⟩ := hz
                have hzI : (c : Int) = 0 := by omega
                have hk0I : (0 : Int) < (k : Int) := by omega
                go_wp2_with fail
                go_ret3
                exact ⟨.inr ⟨12, HN.out, by omega, by omega, rfl⟩, rfl⟩
              · have HD := Lib.hid (HU.out.done hkd (fun h => absurd h h99) (by rw [hcE.out]; omega) (fun h => by rw [hcE.out] at h; false_or_by_contra; exact hz ⟨h, by omega⟩))
                rw [hcE.out, show c = q by have := HQ.out; omega, HS.out] at HD
                rcases (by omega : (c : Int) = 0 ∧ ¬ (0 : Int) < (k : Int) ∨ ¬ (c : Int) = 0) with ⟨h1, h2⟩ | h1
                · have hA0 : bits .and .u8 0 127 = (q : Int) := by rw [← hA, h1]
                  go_wp2_with fail
                  go_ret3
                  exact ⟨.inl ⟨s, k + 1, HD.out, hs, by omega, by rw [show ((a + (k + 1) : Nat) : Int) = (a : Int) + (k : Int) + 1 by omega]; rfl⟩, rfl⟩
                · go_wp2_with fail
                  go_ret3
                  exact ⟨.inl ⟨s, k + 1, HD.out, hs, by omega, by rw [show ((a + (k + 1) : Nat) : Int) = (a : Int) + (k : Int) + 1 by omega]; rfl⟩, rfl⟩
      · have hN := Lib.hid (HU.out.short (by omega))
        have hltI : ¬ (k : Int) < (r : Int) := by omega
        go_wp2_with fail
        go_ret3
        exact ⟨.inr ⟨11, hN.out, by omega, by omega, rfl⟩, rfl⟩

set_option maxRecDepth 100000 in
set_option maxHeartbeats 1000000 in
theorem open01_any (A : Option Addr) (cap B : Nat) (l : List Nat) (w : World) (hr : Row w B A (bysN l)) (hb : ∀ c ∈ l, c < 256) (hm : l.length ≤ 4611686018427387904) :
    Calls Try.prog 80 #[.slice A l.length cap] w fun e w' => OpenRes l e ∧ w' = w := by
  go_enter Try.func80, Try.ntmps80
  go_wp2_with fail
  go_loopw [7] (fun i wr => ∃ k : Nat, i = .int .i64 k ∧ k ≤ l.length ∧ Hid (∀ j (h : j < l.length), j < k → 128 ≤ l[j]) ∧ wr = w) (fun i _ => l.length - (intOf i).toNat)
  case atStart => exact ⟨0, rfl, Nat.zero_le _, Lib.hid (fun j h h' => absurd h' (Nat.not_lt_zero _)), rfl⟩
  case round =>
    obtain ⟨k, rfl, hk, HP, rfl⟩ := hrel
    by_cases hlt : k < l.length
    · obtain ⟨ad, rfl, hbk, d0⟩ := bysN_at hr hlt
      have hcb := hb _ (List.getElem_mem hlt)
      have HC := Lib.hid (show l[k] = l[k] from rfl)
      generalize hc : l[k] = c at d0 hcb HC
      have HE := Lib.hid hc
      clear hc HC
      have hltI : (k : Int) < (l.length : Int) := by omega
      by_cases h128 : 128 ≤ c
      · have hcI : ¬ (c : Int) < 128 := by omega
        go_wp2_with fail
        go_roundw
        case rel =>
          refine ⟨k + 1, by go_num, by omega, Lib.hid (fun j h h' => ?_), by trivial⟩
          rcases Nat.lt_succ_iff_lt_or_eq.1 h' with h1 | h1
          · exact HP.out j h h1
          · subst h1; rw [HE.out]; exact h128
        case measure => simp [intOf]; omega
      · have hcI : (c : Int) < 128 := by omega
        go_wp2_with fail
        go_ret
        exact ⟨⟨false, rfl, (fun h => by cases h)⟩, rfl⟩
    · have hltI : ¬ (k : Int) < (l.length : Int) := by omega
      go_wp2_with fail
      go_ret
      refine ⟨⟨_, rfl, (fun _ c hc => ?_)⟩, rfl⟩
      obtain ⟨j, hj, rfl⟩ := List.mem_iff_getElem.1 hc
      exact HP.out j hj (by omega)

theorem bysN_drop {w : World} {B : Nat} {ad : Addr} {l : List Nat} {a : Nat} (hr : Row w B (some ad) (bysN l)) (h : a < l.length) : Row w B (some (ad.add a)) (bysN (l.drop a)) := by
  obtain ⟨ad2, e2, hb, _⟩ := bysN_at hr h
  obtain rfl : ad = ad2 := by injection e2
  refine .inr ⟨ad.add a, rfl, by rw [add_block]; exact hb, fun k hk => ?_⟩
  rw [bysN_len, List.length_drop] at hk
  obtain ⟨ad3, e3, _, hc⟩ := bysN_at hr (show a + k < l.length by omega)
  obtain rfl : ad = ad3 := by injection e3
  rw [show (ad.add a).add k = ad.add (a + k) from add_add ad a k, hc, List.getElem?_eq_getElem (by rw [bysN_len, List.length_drop]; omega)]
  simp [bysN]
def placeN (k : Nat) : Nat := 128 ^ k
theorem placeN_lt {k : Nat} (h : k ≤ 9) : placeN k ≤ 9223372036854775808 ∧ placeN (k + 1) = placeN k * 128 := by
  refine ⟨?_, by unfold placeN; rw [Nat.pow_succ]⟩
  have := Nat.pow_le_pow_right (show 0 < 128 by omega) h
  exact Nat.le_trans this (by decide)
set_option maxRecDepth 100000 in
set_option maxHeartbeats 1000000 in
theorem takeUint_any (A : Option Addr) (cap B : Nat) (l : List Nat) (a : Nat) (w : World) (hr : Row w B A (bysN l)) (hb : ∀ c ∈ l, c < 256) (hc : l.length ≤ cap) (hm : l.length ≤ 4611686018427387904) (ha : a ≤ l.length) :
    Calls Try.prog 63 #[.slice A l.length cap, .int .i64 (a : Nat)] w fun e w' => UnRes l a e ∧ w' = w := by
  have hcI : (l.length : Int) ≤ (cap : Int) := by omega
  by_cases hal : a = l.length
  · have HN : Hid (unA 0 0 (l.drop a) = none) := Lib.hid (by rw [hal, List.drop_length]; rfl)
    subst hal
    rcases (by omega : cap = l.length ∨ l.length < cap) with hcl | hcl
    all_goals
      try subst hcl
      have HO := Lib.hid (fun A' c' => open01_any A' c' B [] w Row.nil (fun c h => by cases h) (by simp))
      unfold OpenRes at HO
      go_enter Try.func63, Try.ntmps63
      go_wp2_with fail
      refine (HO.out _ _).mono ?_
      rintro e w' ⟨⟨b, rfl, _⟩, rfl⟩
      clear HO
      cases b
      · go_wp2_with fail
        go_loopw [10] (fun i wr => i = .int .i64 0 ∧ wr = w') (fun _ _ => 0)
        case atStart => exact ⟨rfl, rfl⟩
        case round =>
          obtain ⟨rfl, rfl⟩ := hrel
          go_wp2_with fail
          go_ret3
          exact ⟨.inr ⟨12, HN.out, by omega, by omega, rfl⟩, rfl⟩
      · go_wp2_with fail
        go_ret3
        exact ⟨.inr ⟨11, HN.out, by omega, by omega, rfl⟩, rfl⟩
  · have hal2 : a < l.length := by omega
    clear hal
    have haI : (a : Int) < (l.length : Int) := by omega
    have hca : ¬ cap = a := by omega
    have hnl : ¬ l.length < a := by omega
    have hn0 : ¬ (a : Int) < 0 := by omega
    have hdl : (l.drop a).length = l.length - a := by simp
    have HO := Lib.hid (fun A' c' h => open01_any A' c' B (l.drop a) w h (fun c h => hb c (List.mem_of_mem_drop h)) (by omega))
    unfold OpenRes at HO
    rw [hdl] at HO
    obtain ⟨ad, rfl, hbk, _⟩ := bysN_at hr hal2
    have hrd : Row w B (some (ad.add a)) (bysN (l.drop a)) := bysN_drop hr hal2
    go_enter Try.func63, Try.ntmps63
    go_wp2_with fail
    refine (HO.out _ _ hrd).mono ?_
    rintro e w' ⟨⟨b, rfl, hbt⟩, rfl⟩
    clear HO hrd
    cases b
    · clear hbt
      go_wp2_with fail
      generalize hrr : l.length - a = r at *
      have HR := Lib.hid hrr
      have hrI : (r : Int) ≤ 4611686018427387904 := by omega
      clear hrr
      go_loopw [8, 9, 10] (fun v p i wr => ∃ k m : Nat, i = .int .i64 k ∧ v = .int .u64 m ∧ p = .int .u64 (placeN k : Nat) ∧ UnI (l.drop a) k m ∧ wr = w') (fun _ _ i _ => r - (intOf i).toNat)
      case atStart => exact ⟨0, 0, rfl, rfl, rfl, UnI.zero _, rfl⟩
      case round =>
        obtain ⟨k, m, rfl, rfl, rfl, HU, rfl⟩ := hrel
        have HU := Lib.hid HU
        have hk9 := HU.out.k9
        have hkr := HU.out.le
        rw [hdl] at hkr
        by_cases hlt : k < r
        · have hj : a + k < l.length := by have := HR.out; omega
          obtain ⟨ad2, e2, _, d0⟩ := bysN_at hr hj
          obtain rfl : ad = ad2 := by injection e2
          have e1 : ad.add (a + k) = (ad.add a).add k := (add_add ad a k).symm
          rw [e1] at d0
          have hkd : k < (l.drop a).length := by omega
          have hcE : Hid ((l.drop a)[k] = l[a + k]) := Lib.hid (by rw [List.getElem_drop])
          have hcb := hb _ (List.getElem_mem hj)
          generalize l[a + k] = c at *
          clear e1 e2
          have hltI : (k : Int) < (r : Int) := by omega
          have hk10 : (k : Int) < 10 := by omega
          have haI0 : (a : Int) ≤ 4611686018427387904 := by omega
          obtain ⟨hpl, hpn⟩ := placeN_lt hk9
          by_cases h9 : k = 9 ∧ 1 < c
          · have HN := HU.out.bad9 hkd h9.1 (by rw [hcE.out]; omega)
            have HN := Lib.hid HN
            obtain ⟨h9, hc1⟩ := h9
            have hc1I : (1 : Int) < (c : Int) := by omega
            subst h9
            have d9 : wr.cell? ⟨(ad.add a).block, (ad.add a).off + 9, none⟩ = some (.int .u8 (c : Nat)) := d0
            clear d0
            go_wp2_with fail
            go_ret3
            exact ⟨.inr ⟨12, HN.out, by omega, by omega, rfl⟩, rfl⟩
          · have hA : ((c : Int) % 128) = ((c % 128 : Nat) : Int) := by omega
            generalize hq : c % 128 = q at *
            have HQ := Lib.hid hq
            have hql : q < 128 := by omega
            have hqw : IntKind.u64.wrap (q : Int) = q := Go.IntWalk.u64_in _ (by omega)
            have hfit := HU.out.fit hql (fun h => by
              have h1 : c ≤ 1 := by false_or_by_contra; exact h9 ⟨h, by omega⟩
              omega)
            have hs1 : IntKind.u64.wrap ((q : Int) * (placeN k : Nat)) = ((q * 128 ^ k : Nat) : Int) := by
              rw [show (q : Int) * (placeN k : Nat) = ((q * 128 ^ k : Nat) : Int) from by unfold placeN; push_cast; rfl]
              exact Go.IntWalk.u64_in _ (by omega)
            have hs2 : IntKind.u64.wrap ((m : Int) + ((q * 128 ^ k : Nat) : Int)) = ((m + q * 128 ^ k : Nat) : Int) := by
              rw [show (m : Int) + ((q * 128 ^ k : Nat) : Int) = ((m + q * 128 ^ k : Nat) : Int) by push_cast; rfl]
              exact Go.IntWalk.u64_in _ (by omega)
            have hs := hfit.1
            generalize hss : m + q * 128 ^ k = s at *
            have HS := Lib.hid hss
            generalize htt : q * 128 ^ k = t at *
            have HT := Lib.hid htt
            clear hq hss hfit htt
            by_cases h99 : k = 9
            · have hc1 : c ≤ 1 := by false_or_by_contra; exact h9 ⟨h99, by omega⟩
              rcases (by omega : c = 0 ∨ c = 1) with hc0 | hc1
              · have HN := Lib.hid (HU.out.zer hkd (by omega) (by rw [hcE.out]; exact hc0))
                subst h99 hc0
                have d9 : wr.cell? ⟨(ad.add a).block, (ad.add a).off + 9, none⟩ = some (.int .u8 0) := d0
                clear d0
                go_wp2_with fail
                go_ret3
                exact ⟨.inr ⟨12, HN.out, by omega, by omega, rfl⟩, rfl⟩
              · have hq1 : q = 1 := by rw [← HQ.out, hc1]
                have HD := Lib.hid (HU.out.done hkd (fun _ => by rw [hcE.out]; exact hc1) (by rw [hcE.out]; omega) (fun h => by rw [hcE.out] at h; omega))
                subst h99 hq1 hc1
                have d9 : wr.cell? ⟨(ad.add a).block, (ad.add a).off + 9, none⟩ = some (.int .u8 1) := d0
                clear d0
                have hw1 : IntKind.u64.wrap 1 = 1 := by decide
                have hp9 : IntKind.u64.wrap (placeN 9 : Nat) = (t : Int) := by rw [← hs1]; simp
                go_wp2_with fail
                go_ret3
                rw [hcE.out, HT.out, HS.out] at HD
                exact ⟨.inl ⟨s, 9 + 1, HD.out, hs, by omega, rfl⟩, rfl⟩
            · have h99I : ¬ (k : Int) = 9 := by omega
              by_cases hc128 : 128 ≤ c
              · have hcI : ¬ (c : Int) < 128 := by omega
                have hpm : IntKind.u64.wrap ((placeN k : Nat) * 128) = (placeN (k + 1) : Nat) := by
                  rw [hpn]
                  have h8 := (placeN_lt (k := k + 1) (by omega)).1
                  rw [hpn] at h8
                  exact Go.IntWalk.u64_in _ (by omega)
                go_wp2_with fail
                have hst := HU.out.step hkd h99 (by rw [hcE.out]; exact hc128)
                rw [hcE.out, HQ.out, HT.out, HS.out] at hst
                refine ⟨⟨k + 1, s, by go_num, rfl, by rw [hpn]; push_cast; rfl, hst, trivial⟩, ?_⟩
                simp [intOf]; omega
              · have hcI : (c : Int) < 128 := by omega
                by_cases hz : c = 0 ∧ 0 < k
                · have HN := Lib.hid (HU.out.zer hkd hz.2 (by rw [hcE.out]; exact hz.1))
                  obtain ⟨hz, hk0⟩ := hz
                  have hzI : (c : Int) = 0 := by omega
                  have hk0I : (0 : Int) < (k : Int) := by omega
                  go_wp2_with fail
                  go_ret3
                  exact ⟨.inr ⟨12, HN.out, by omega, by omega, rfl⟩, rfl⟩
                · have HD := Lib.hid (HU.out.done hkd (fun h => absurd h h99) (by rw [hcE.out]; omega) (fun h => by rw [hcE.out] at h; false_or_by_contra; exact hz ⟨h, by omega⟩))
                  rw [hcE.out, show c = q by have := HQ.out; omega, HT.out, HS.out] at HD
                  rcases (by omega : (c : Int) = 0 ∧ ¬ (0 : Int) < (k : Int) ∨ ¬ (c : Int) = 0) with ⟨h1, h2⟩ | h1
                  · have hq0 : q = 0 := by have := HQ.out; omega
                    have ht0 : t = 0 := by rw [← HT.out, hq0, Nat.zero_mul]
                    have hms : m = s := by rw [← HS.out, ht0]; rfl
                    have hmw : IntKind.u64.wrap (m : Int) = (s : Int) := by rw [hms]; exact Go.IntWalk.u64_in _ (by omega)
                    go_wp2_with fail
                    go_ret3
                    exact ⟨.inl ⟨s, k + 1, HD.out, hs, by omega, by rw [show ((a + (k + 1) : Nat) : Int) = (a : Int) + (k : Int) + 1 by omega]; rfl⟩, rfl⟩
                  · go_wp2_with fail
                    go_ret3
                    exact ⟨.inl ⟨s, k + 1, HD.out, hs, by omega, by rw [show ((a + (k + 1) : Nat) : Int) = (a : Int) + (k : Int) + 1 by omega]; rfl⟩, rfl⟩
        · have hN := Lib.hid (HU.out.short (by omega))
          have hltI : ¬ (k : Int) < (r : Int) := by omega
          go_wp2_with fail
          go_ret3
          exact ⟨.inr ⟨12, hN.out, by omega, by omega, rfl⟩, rfl⟩
    · have HN := Lib.hid (unA_long (l.drop a) 0 0 (hbt rfl))
      go_wp2_with fail
      go_ret3
      exact ⟨.inr ⟨11, HN.out, by omega, by omega, rfl⟩, rfl⟩
end
end Go.Proofs.Ytnjhipnfhapngaa
