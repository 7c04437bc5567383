/-
  A content that is put together from packets with flipped bits has another fingerprint, or is the content (plain); a receiver that gets such packets.
-/
import Derived.Test.YtpoiejgoongllaaNear37
import Derived.Test.YtpoiejgoongllaaMid37
namespace Go.Proofs.Ytpoiejgoongllaa
section
set_option linter.unusedVariables false
set_option linter.unusedSimpArgs false
set_option linter.unnecessarySimpa false

def k45 : Nat := 747382712868975713 ^ 2045
def k21 : Nat := 747382712868975713 ^ 1021
theorem cw_pairs1 : ((cV.zip cw1).all fun p => decide ((p.1 * k45) % 2305843009213693951 = p.2)) = true := by decide +kernel
theorem cw_pairs2 : ((cV.zip cw2).all fun p => decide ((p.1 * k21) % 2305843009213693951 = p.2)) = true := by decide +kernel
theorem dot_cong (K : Nat) : ∀ (cs : List Int) (l m : List Nat), l.length = m.length → ((l.zip m).all fun p => decide ((p.1 * K) % 2305843009213693951 = p.2)) = true → (2305843009213693951 : Int) ∣ dotI cs l * (K : Int) - dotI cs m
  | [], l, m, _, _ => by cases l <;> cases m <;> simp [dotI]
  | c :: cs, [], [], _, _ => by simp [dotI]
  | c :: cs, v :: l, u :: m, hl, h => by
    simp only [List.zip_cons_cons, List.all_cons, Bool.and_eq_true, decide_eq_true_eq] at h
    have ih := dot_cong K cs l m (by simpa using hl) h.2
    have h1 : (2305843009213693951 : Int) ∣ (v : Int) * K - u := by
      have : ((v * K : Nat) : Int) % 2305843009213693951 = u := by rw [← h.1]; rfl
      rw [Int.natCast_mul] at this
      omega
    simp only [dotI]
    have e : (c * (v : Int) + dotI cs l) * K - (c * u + dotI cs m) = c * ((v : Int) * K - u) + (dotI cs l * K - dotI cs m) := by
      rw [Int.add_mul, Int.mul_sub, Int.mul_assoc]; omega
    rw [e]
    exact Int.dvd_add (Int.dvd_mul_of_dvd_right h1) ih
/-- the powers of Base, as a word -/
def bw (k : Nat) : Int := 747382712868975713 ^ k
theorem bw_add (i j : Nat) : bw (i + j) = bw i * bw j := by unfold bw; exact Int.pow_add _ _ _
theorem bw_zero : bw 0 = 1 := rfl
theorem bw_four : bw 4 = 312012643624315134978957129026803571854597200305916554740132480651340161 := by unfold bw; decide
theorem pq_app (a b : List Int) : pq (a ++ b) = pq a * bw b.length + pq b := pq_append a b
theorem pq_dif {m : Nat} {zs ys : List Int} (h : Near m zs ys) : (pq ys - pq zs) * bw 4 = hdZ zs ys * bw zs.length := by rw [bw_four]; exact pq_diff h
theorem pow_cast (k : Nat) : ((747382712868975713 ^ k : Nat) : Int) = (747382712868975713 : Int) ^ k := by rw [Int.natCast_pow]; rfl
theorem k45_cast : (k45 : Int) = bw 2045 := by unfold k45 bw; exact pow_cast 2045
theorem k21_cast : (k21 : Int) = bw 1021 := by unfold k21 bw; exact pow_cast 1021
/-- flipped bits of two packets and one byte behind them -/
theorem near_main {s0 z0 s1 z1 : List Int} (h0 : Near 3 s0 z0) (h1 : Near 3 s1 z1) (b0 : Byt s0) (b1 : Byt s1) {d : Int} (hd : -255 ≤ d ∧ d ≤ 255)
    (h : (2305843009213693951 : Int) ∣ hdZ s0 z0 * bw 2045 + hdZ s1 z1 * bw 1021 + d) : z0 = s0 ∧ z1 = s1 := by
  have c0 := dot_cong k45 (dl s0 z0) cV cw1 rfl cw_pairs1
  have c1 := dot_cong k21 (dl s1 z1) cV cw2 rfl cw_pairs2
  rw [← hdZ_dot h0 b0, k45_cast] at c0
  rw [← hdZ_dot h1 b1, k21_cast] at c1
  generalize hdZ s0 z0 * bw 2045 = u at *
  generalize hdZ s1 z1 * bw 1021 = v at *
  obtain ⟨q1, q2⟩ := c_main (dl_len _ _) (dl_sgn _ _) h0.cnt (dl_len _ _) (dl_sgn _ _) h1.cnt hd (by omega)
  exact ⟨h0.eq b0 q1, h1.eq b1 q2⟩
theorem near_nil : Near 3 [] [] := (Near.refl (zs := []) (fun z hz => by cases hz)).mono (by omega)
theorem hdZ_nil : hdZ [] [] = 0 := by rfl
theorem byt_nil : Byt [] := fun z hz => by cases hz
theorem ansZ_split (zs : List Int) : zs = ansZ 0 zs ++ (ansZ 1024 zs ++ zs.drop 2048) := by
  unfold ansZ
  rw [List.drop_zero, show zs.drop 2048 = (zs.drop 1024).drop 1024 by rw [List.drop_drop], List.take_append_drop, List.take_append_drop]
theorem dvd_pow {a : Int} (k : Nat) (h : (2305843009213693951 : Int) ∣ a) : (2305843009213693951 : Int) ∣ a * bw k := Int.dvd_mul_of_dvd_left h
theorem near_whole {T Z : List Int} (hT : Byt T) (hZ : Byt Z) (hl : Z.length = T.length) (hn : T.length ≤ 2045 ∨ T.length = 2049) (hs : ∀ i, 1024 * i < T.length → Near 3 (ansZ (1024 * i) T) (ansZ (1024 * i) Z)) (he : sumZ Z = sumZ T) : Z = T := by
  rw [sumZ_pq, sumZ_pq] at he
  have hdv := dvd_of_emod_eq he
  have e1 := ansZ_split T
  have e2 := ansZ_split Z
  have n0 : Near 3 (ansZ 0 T) (ansZ 0 Z) := by
    rcases Nat.eq_zero_or_pos T.length with h | h
    · rw [show T = [] from List.eq_nil_of_length_eq_zero h, show Z = [] from List.eq_nil_of_length_eq_zero (by omega)]; exact near_nil
    · exact hs 0 (by omega)
  have n1 : Near 3 (ansZ 1024 T) (ansZ 1024 Z) := by
    rcases Nat.lt_or_ge 1024 T.length with h | h
    · exact hs 1 (by omega)
    · have a : ansZ 1024 T = [] := by unfold ansZ; rw [List.drop_of_length_le h]; rfl
      have b : ansZ 1024 Z = [] := by unfold ansZ; rw [List.drop_of_length_le (by omega)]; rfl
      rw [a, b]; exact near_nil
  have l0 : (ansZ 0 T).length = min T.length 1024 := by rw [ansZ_len]; omega
  have l1 : (ansZ 1024 T).length = min (T.length - 1024) 1024 := ansZ_len _ _
  have b0 : Byt (ansZ 0 T) := ansZ_byt hT 0
  have b1 : Byt (ansZ 1024 T) := ansZ_byt hT 1024
  have d0 := pq_dif n0
  have d1 := pq_dif n1
  have k0 := n0.len
  have k1 := n1.len
  have hr : (Z.drop 2048).length = (T.drop 2048).length := by rw [List.length_drop, List.length_drop, hl]
  have hlt2 : (T.drop 2048).length = T.length - 2048 := List.length_drop ..
  have hby2 : Byt (T.drop 2048) := fun z hz => hT z (List.mem_of_mem_drop hz)
  have hby3 : Byt (Z.drop 2048) := fun z hz => hZ z (List.mem_of_mem_drop hz)
  suffices hq : ansZ 0 Z = ansZ 0 T ∧ ansZ 1024 Z = ansZ 1024 T ∧ Z.drop 2048 = T.drop 2048 by
    rw [e1, e2, hq.1, hq.2.1, hq.2.2]
  rw [e1, e2, pq_app, pq_app, pq_app, pq_app] at hdv
  rw [List.length_append, List.length_append, k1, hr, hlt2] at hdv
  generalize hs0 : ansZ 0 T = s0 at *
  generalize hz0 : ansZ 0 Z = z0 at *
  generalize hs1 : ansZ 1024 T = s1 at *
  generalize hz1 : ansZ 1024 Z = z1 at *
  generalize T.drop 2048 = s2 at *
  generalize Z.drop 2048 = z2 at *
  clear hs e1 e2 hs0 hz0 hs1 hz1
  rcases hn with hn | hn
  · have h2 : s2 = [] := List.eq_nil_of_length_eq_zero (by omega)
    have h3 : z2 = [] := List.eq_nil_of_length_eq_zero (by omega)
    subst h2 h3
    rw [show T.length - 2048 = 0 by omega] at hdv
    simp only [Nat.add_zero, bw_zero, Int.mul_one] at hdv
    have hdv2 := Int.dvd_mul_of_dvd_left (c := bw 4) hdv
    have e : (pq z0 * bw s1.length + (pq z1 + pq []) - (pq s0 * bw s1.length + (pq s1 + pq []))) * bw 4 = hdZ s0 z0 * bw (s0.length + s1.length) + hdZ s1 z1 * bw s1.length := by
      rw [bw_add, ← Int.mul_assoc, ← d0, ← d1]
      generalize bw s1.length = p
      rw [show pq z0 * p + (pq z1 + pq []) - (pq s0 * p + (pq s1 + pq [])) = (pq z0 * p - pq s0 * p) + (pq z1 - pq s1) by omega, ← Int.sub_mul, Int.add_mul, Int.mul_assoc, Int.mul_comm p, ← Int.mul_assoc]
    rw [e] at hdv2
    have hfin : z0 = s0 ∧ z1 = s1 := by
      rcases Nat.eq_zero_or_pos s1.length with h0 | h0
      · have h4 : s1 = [] := List.eq_nil_of_length_eq_zero h0
        have h5 : z1 = [] := List.eq_nil_of_length_eq_zero (by omega)
        subst h4 h5
        have h6 := dvd_pow (2045 - s0.length) hdv2
        rw [hdZ_nil, Int.zero_mul, Int.add_zero, List.length_nil, Nat.add_zero, Int.mul_assoc, ← bw_add, show s0.length + (2045 - s0.length) = 2045 by omega] at h6
        exact near_main n0 n1 b0 b1 (d := 0) (by omega) (by rw [hdZ_nil, Int.zero_mul, Int.add_zero, Int.add_zero]; exact h6)
      · have h6 := dvd_pow (1021 - s1.length) hdv2
        rw [Int.add_mul, Int.mul_assoc, Int.mul_assoc, ← bw_add, ← bw_add, show s0.length + s1.length + (1021 - s1.length) = 2045 by omega, show s1.length + (1021 - s1.length) = 1021 by omega] at h6
        exact near_main n0 n1 b0 b1 (d := 0) (by omega) (by rw [Int.add_zero]; exact h6)
    exact ⟨hfin.1, hfin.2, rfl⟩
  · have g2 : s2.length = 1 := by omega
    have g3 : z2.length = 1 := by omega
    obtain ⟨a, rfl⟩ := List.length_eq_one_iff.1 g2
    obtain ⟨c, rfl⟩ := List.length_eq_one_iff.1 g3
    have ha := hby2 a (List.mem_singleton.2 rfl)
    have hc := hby3 c (List.mem_singleton.2 rfl)
    have p1 : s1.length = 1024 := by omega
    have p0 : s0.length = 1024 := by omega
    rw [show T.length - 2048 = 1 by omega, p1] at hdv
    rw [p0] at d0
    rw [p1] at d1
    have hx : pq [c] - pq [a] = c - a := by
      simp only [pq, List.foldl_cons, List.foldl_nil]; omega
    have hdv2 := Int.dvd_mul_of_dvd_left (c := bw 4) hdv
    have e : (pq z0 * bw (1024 + 1) + (pq z1 * bw 1 + pq [c]) - (pq s0 * bw (1024 + 1) + (pq s1 * bw 1 + pq [a]))) * bw 4 =
        (hdZ s0 z0 * bw 2045 + hdZ s1 z1 * bw 1021 + (c - a)) * 747382712868975713 * 747382712868975713 * 747382712868975713 * 747382712868975713 := by
      have f0 : hdZ s0 z0 * bw 2045 * bw 4 = (pq z0 - pq s0) * bw 4 * bw (1024 + 1) := by
        rw [d0, Int.mul_assoc, Int.mul_assoc, ← bw_add, ← bw_add]
      have f1 : hdZ s1 z1 * bw 1021 * bw 4 = (pq z1 - pq s1) * bw 4 * bw 1 := by
        rw [d1, Int.mul_assoc, Int.mul_assoc, ← bw_add, ← bw_add]
      generalize hdZ s0 z0 * bw 2045 = u0 at *
      generalize hdZ s1 z1 * bw 1021 = u1 at *
      generalize bw (1024 + 1) = p at *
      generalize bw 1 = q at *
      have r0 : (pq z0 - pq s0) * bw 4 * p = (pq z0 * p - pq s0 * p) * bw 4 := by rw [← Int.sub_mul, Int.mul_assoc, Int.mul_assoc, Int.mul_comm p]
      have r1 : (pq z1 - pq s1) * bw 4 * q = (pq z1 * q - pq s1 * q) * bw 4 := by rw [← Int.sub_mul, Int.mul_assoc, Int.mul_assoc, Int.mul_comm q]
      rw [r0] at f0
      rw [r1] at f1
      generalize pq z0 * p = w0 at *
      generalize pq s0 * p = w1 at *
      generalize pq z1 * q = w2 at *
      generalize pq s1 * q = w3 at *
      rw [bw_four] at f0 f1 ⊢
      clear hdv hdv2 d0 d1 r0 r1
      omega
    rw [e] at hdv2
    have h6 := dvd_cancel base_inv (dvd_cancel base_inv (dvd_cancel base_inv (dvd_cancel base_inv hdv2)))
    clear hdv hdv2 e d0 d1 hx he
    obtain ⟨m0, m1⟩ := near_main n0 n1 b0 b1 (d := c - a) (by clear h6; omega) h6
    refine ⟨m0, m1, ?_⟩
    subst m0 m1
    have hh : ∀ s : List Int, hdZ s s = 0 := fun s => by unfold hdZ; simp
    rw [hh, hh, Int.zero_mul, Int.zero_mul] at h6
    have h7 : c = a := by
      clear n0 n1 b0 b1 hh hl hr l0 l1 k0 k1 hn hlt2 g2 g3 p0 p1
      omega
    rw [h7]
end
end Go.Proofs.Ytpoiejgoongllaa
