/-
  That flipped bits do not collide in the fingerprint: what the computation says of sums with signs (plain).
-/
import Derived.Test.YtpoiejgoongllaaColl37
namespace Go.Proofs.Ytpoiejgoongllaa
section
set_option linter.unusedVariables false
set_option linter.unusedSimpArgs false
set_option linter.unnecessarySimpa false

theorem cPut_out {lo hi v x : Nat} {out : List Nat} (h : x ∈ out) : x ∈ cPut lo hi v out := by
  unfold cPut
  rw [cForce_eq]
  cases Nat.ble lo (Nat.mod v 2305843009213693951) <;> cases Nat.blt (Nat.mod v 2305843009213693951) hi <;> simp [h]
theorem cPut_in {lo hi v : Nat} {out : List Nat} (h1 : lo ≤ v % q61) (h2 : v % q61 < hi) : v % q61 ∈ cPut lo hi v out := by
  unfold cPut
  rw [cForce_eq]
  have e1 : Nat.ble lo (Nat.mod v 2305843009213693951) = true := Nat.ble_eq_true_of_le h1
  have e2 : Nat.blt (Nat.mod v 2305843009213693951) hi = true := Nat.ble_eq_true_of_le h2
  rw [e1, e2]
  exact List.mem_cons_self ..
theorem cSubs_out (lo hi x : Nat) : ∀ (l : List Nat) (n acc : Nat) (out : List Nat), x ∈ out → x ∈ cSubs lo hi l n acc out
  | [], n, acc, out, h => by cases n <;> exact cPut_out h
  | v :: l, 0, acc, out, h => cPut_out h
  | v :: l, n + 1, acc, out, h => cSubs_out lo hi x l (n + 1) acc _ (cSubs_out lo hi x l n _ _ (cSubs_out lo hi x l n _ _ h))
/-- the sum of the numbers with coefficients -/
def dotI : List Int → List Nat → Int
  | c :: cs, v :: l => c * v + dotI cs l
  | _, _ => 0
def Sgn (cs : List Int) : Prop := ∀ c ∈ cs, c = 0 ∨ c = 1 ∨ c = -1
def nzc (cs : List Int) : Nat := cs.countP (fun c => decide (c ≠ 0))
theorem nzc_c0 (cs : List Int) : nzc (0 :: cs) = nzc cs := by unfold nzc; rw [List.countP_cons]; rfl
theorem nzc_c1 (cs : List Int) : nzc (1 :: cs) = nzc cs + 1 := by unfold nzc; rw [List.countP_cons]; rfl
theorem nzc_c2 (cs : List Int) : nzc (-1 :: cs) = nzc cs + 1 := by unfold nzc; rw [List.countP_cons]; rfl
theorem dotI_zero : ∀ (cs : List Int) (l : List Nat), (∀ c ∈ cs, c = 0) → dotI cs l = 0
  | [], l, _ => by cases l <;> rfl
  | c :: cs, [], _ => rfl
  | c :: cs, v :: l, h => by
    simp only [dotI]
    rw [h c (List.mem_cons_self ..), dotI_zero cs l (fun c hc => h c (List.mem_cons_of_mem _ hc))]
    omega
theorem nzc_zero {cs : List Int} (h : nzc cs = 0) : ∀ c ∈ cs, c = 0 := fun c hc => by
  have := List.countP_eq_zero.1 h c hc
  simpa using this
theorem nat_mod {a : Nat} {z : Int} (h : (q61 : Int) ∣ a - z) : (a % q61 : Nat) = (z % q61).toNat := by
  obtain ⟨t, ht⟩ := h
  have : (a : Int) % q61 = z % q61 := by
    have : (a : Int) = z + q61 * t := by omega
    rw [this, Int.add_mul_emod_self_left]
  omega
theorem cSubs_mem (lo hi : Nat) : ∀ (l : List Nat) (n acc : Nat) (out : List Nat) (cs : List Int), cs.length = l.length → Sgn cs → nzc cs ≤ n → (∀ v ∈ l, v ≤ q61) → ∀ z : Int, (q61 : Int) ∣ acc + dotI cs l - z → lo ≤ (z % q61).toNat → (z % q61).toNat < hi → (z % q61).toNat ∈ cSubs lo hi l n acc out
  | [], n, acc, out, [], _, _, _, _, z, hz, h1, h2 => by
    simp only [dotI, Int.add_zero] at hz
    have e := nat_mod hz
    rw [← e] at h1 h2 ⊢
    cases n <;> exact cPut_in h1 h2
  | v :: l, 0, acc, out, c :: cs, _, _, hn, _, z, hz, h1, h2 => by
    rw [dotI_zero _ _ (nzc_zero (Nat.le_zero.1 hn)), Int.add_zero] at hz
    have e := nat_mod hz
    rw [← e] at h1 h2 ⊢
    exact cPut_in h1 h2
  | v :: l, n + 1, acc, out, c :: cs, hl, hs, hn, hv, z, hz, h1, h2 => by
    have hl' : cs.length = l.length := by simpa using hl
    have hs' : Sgn cs := fun x hx => hs x (List.mem_cons_of_mem _ hx)
    have hv' : ∀ v ∈ l, v ≤ q61 := fun x hx => hv x (List.mem_cons_of_mem _ hx)
    have hvq := hv v (List.mem_cons_self ..)
    simp only [dotI] at hz
    rcases hs c (List.mem_cons_self ..) with rfl | rfl | rfl
    · have hn' : nzc cs ≤ n + 1 := by rw [nzc_c0] at hn; exact hn
      exact cSubs_mem lo hi l (n + 1) acc _ cs hl' hs' hn' hv' z (by rw [Int.zero_mul, Int.zero_add] at hz; exact hz) h1 h2
    · have hn' : nzc cs ≤ n := by rw [nzc_c1] at hn; omega
      refine cSubs_out lo hi _ l (n + 1) acc _ ?_
      refine cSubs_mem lo hi l n (acc + v) _ cs hl' hs' hn' hv' z ?_ h1 h2
      have e : ((acc + v : Nat) : Int) + dotI cs l - z = (acc : Int) + (1 * (v : Int) + dotI cs l) - z := by omega
      rw [e]; exact hz
    · have hn' : nzc cs ≤ n := by rw [nzc_c2] at hn; omega
      refine cSubs_out lo hi _ l (n + 1) acc _ (cSubs_out lo hi _ l n _ _ ?_)
      refine cSubs_mem lo hi l n (acc + (q61 - v)) _ cs hl' hs' hn' hv' z ?_ h1 h2
      have e : ((acc + (q61 - v) : Nat) : Int) + dotI cs l - z = ((acc : Int) + (-1 * (v : Int) + dotI cs l) - z) + q61 := by omega
      rw [e]; exact Int.dvd_add hz (Int.dvd_refl _)
theorem cNz_out (lo hi x : Nat) : ∀ (l : List Nat) (out : List Nat), x ∈ out → x ∈ cNz lo hi l out
  | [], out, h => h
  | v :: l, out, h => cNz_out lo hi x l _ (cSubs_out lo hi x l 2 _ _ (cSubs_out lo hi x l 2 _ _ h))
theorem cNz_mem (lo hi : Nat) : ∀ (l : List Nat) (out : List Nat) (cs : List Int), cs.length = l.length → Sgn cs → nzc cs ≤ 3 → ¬ (∀ c ∈ cs, c = 0) → (∀ v ∈ l, v ≤ q61) → ∀ z : Int, (q61 : Int) ∣ dotI cs l - z → lo ≤ (z % q61).toNat → (z % q61).toNat < hi → (z % q61).toNat ∈ cNz lo hi l out
  | [], out, [], _, _, _, h0, _, z, hz, h1, h2 => absurd (fun c hc => by cases hc) h0
  | v :: l, out, c :: cs, hl, hs, hn, h0, hv, z, hz, h1, h2 => by
    have hl' : cs.length = l.length := by simpa using hl
    have hs' : Sgn cs := fun x hx => hs x (List.mem_cons_of_mem _ hx)
    have hv' : ∀ v ∈ l, v ≤ q61 := fun x hx => hv x (List.mem_cons_of_mem _ hx)
    have hvq := hv v (List.mem_cons_self ..)
    simp only [dotI] at hz
    rcases hs c (List.mem_cons_self ..) with rfl | rfl | rfl
    · have hn' : nzc cs ≤ 3 := by rw [nzc_c0] at hn; exact hn
      refine cNz_mem lo hi l _ cs hl' hs' hn' (fun h => h0 (fun c hc => ?_)) hv' z (by rw [Int.zero_mul, Int.zero_add] at hz; exact hz) h1 h2
      rcases List.mem_cons.1 hc with rfl | hc
      · rfl
      · exact h c hc
    · have hn' : nzc cs ≤ 2 := by rw [nzc_c1] at hn; omega
      refine cNz_out lo hi _ l _ ?_
      refine cSubs_mem lo hi l 2 v _ cs hl' hs' hn' hv' z ?_ h1 h2
      have e : (v : Int) + dotI cs l - z = 1 * (v : Int) + dotI cs l - z := by omega
      rw [e]; exact hz
    · have hn' : nzc cs ≤ 2 := by rw [nzc_c2] at hn; omega
      refine cNz_out lo hi _ l _ (cSubs_out lo hi _ l 2 _ _ ?_)
      refine cSubs_mem lo hi l 2 (q61 - v) _ cs hl' hs' hn' hv' z ?_ h1 h2
      have e : ((q61 - v : Nat) : Int) + dotI cs l - z = (-1 * (v : Int) + dotI cs l - z) + q61 := by omega
      rw [e]; exact Int.dvd_add hz (Int.dvd_refl _)
theorem mem_cLows {m x : Nat} : ∀ {l : List Nat}, x ∈ l → x < m → x ∈ cLows m l
  | y :: l, h, hx => by
    simp only [cLows]
    rcases List.mem_cons.1 h with rfl | h
    · rw [show Nat.blt x m = true from Nat.ble_eq_true_of_le hx]; exact List.mem_cons_self ..
    · cases Nat.blt y m
      · exact mem_cLows h hx
      · exact List.mem_cons_of_mem _ (mem_cLows h hx)
theorem mem_cHighs {m x : Nat} : ∀ {l : List Nat}, x ∈ l → m ≤ x → x ∈ cHighs m l
  | y :: l, h, hx => by
    simp only [cHighs]
    rcases List.mem_cons.1 h with rfl | h
    · rw [show Nat.ble m x = true from Nat.ble_eq_true_of_le hx]; exact List.mem_cons_self ..
    · cases Nat.ble m y
      · exact mem_cHighs h hx
      · exact List.mem_cons_of_mem _ (mem_cHighs h hx)
theorem cFar_all {x y : Nat} : ∀ {l : List Nat}, cFar x l = true → y ∈ l → x + 256 ≤ y ∨ y + 256 ≤ x
  | z :: l, h, hy => by
    simp only [cFar] at h
    cases h1 : Nat.ble (Nat.add x 256) z with
    | true =>
      rw [h1] at h
      rcases List.mem_cons.1 hy with rfl | hy
      · exact .inl (Nat.le_of_ble_eq_true h1)
      · exact cFar_all h hy
    | false =>
      rw [h1] at h
      cases h2 : Nat.ble (Nat.add z 256) x with
      | true =>
        rw [h2] at h
        rcases List.mem_cons.1 hy with rfl | hy
        · exact .inr (Nat.le_of_ble_eq_true h2)
        · exact cFar_all h hy
      | false => rw [h2] at h; cases h
theorem cFarAll_all {x y : Nat} {Y : List Nat} : ∀ {l : List Nat}, cFarAll Y l = true → x ∈ l → y ∈ Y → x + 256 ≤ y ∨ y + 256 ≤ x
  | z :: l, h, hx, hy => by
    simp only [cFarAll] at h
    cases h1 : cFar z Y with
    | true =>
      rw [h1] at h
      rcases List.mem_cons.1 hx with rfl | hx
      · exact cFar_all h1 hy
      · exact cFarAll_all h hx hy
    | false => rw [h1] at h; cases h
theorem cApart_all {x y : Nat} : ∀ (d lo wd : Nat) {X Y : List Nat}, cApart d lo wd X Y = true → x ∈ X → y ∈ Y → x + 256 ≤ y ∨ y + 256 ≤ x
  | 0, lo, wd, X, Y, h, hx, hy => cFarAll_all h hx hy
  | d + 1, lo, wd, X, Y, h, hx, hy => by
    have n1 : cNone X = false := by cases X <;> first | rfl | cases hx
    have n2 : cNone Y = false := by cases Y <;> first | rfl | cases hy
    simp only [cApart, n1, n2, cond_false, cForce_eq] at h
    generalize hm : Nat.add lo (Nat.div wd 2) = m at h
    generalize Nat.div wd 2 = hw at h
    cases h1 : cApart d lo hw (cLows m X) (cLows (Nat.add m 256) Y) with
    | false => rw [h1] at h; cases h
    | true =>
      rw [h1] at h
      simp only [cond_true] at h
      cases h2 : cApart d m hw (cHighs m X) (cHighs (Nat.sub m 256) Y) with
      | false => rw [h2] at h; cases h
      | true =>
        rcases Nat.lt_or_ge x m with hlt | hge
        · rcases Nat.lt_or_ge y (m + 256) with hy2 | hy2
          · exact cApart_all d _ _ h1 (mem_cLows hx hlt) (mem_cLows hy hy2)
          · left; omega
        · rcases Nat.lt_or_ge y (m - 256) with hy2 | hy2
          · right; omega
          · exact cApart_all d _ _ h2 (mem_cHighs hx hge) (mem_cHighs hy hy2)
theorem cNone_nil {l : List Nat} (h : cNone l = true) {x : Nat} : x ∉ l := by
  cases l with
  | nil => intro h; cases h
  | cons => cases h
theorem cw_le : (∀ v ∈ cw1, v ≤ q61) ∧ ∀ v ∈ cw2, v ≤ q61 := by
  constructor <;> decide +kernel
theorem dotI_neg : ∀ (cs : List Int) (l : List Nat), dotI (cs.map (- ·)) l = - dotI cs l
  | [], l => by cases l <;> rfl
  | c :: cs, [] => rfl
  | c :: cs, v :: l => by
    simp only [List.map_cons, dotI, dotI_neg cs l, Int.neg_mul]; omega
theorem Sgn.neg {cs : List Int} (h : Sgn cs) : Sgn (cs.map (- ·)) := fun c hc => by
  obtain ⟨d, hd, rfl⟩ := List.mem_map.1 hc
  rcases h d hd with rfl | rfl | rfl <;> simp
theorem nzc_neg (cs : List Int) : nzc (cs.map (- ·)) = nzc cs := by
  unfold nzc
  rw [List.countP_map]
  congr 1
  funext c
  simp
theorem neg_zero {cs : List Int} (h : ∀ c ∈ cs.map (- ·), c = 0) : ∀ c ∈ cs, c = 0 := fun c hc => by
  have := h (-c) (List.mem_map.2 ⟨c, hc, rfl⟩)
  omega
/-- what is not zero is far from zero -/
theorem c_edge {cs : List Int} {l : List Nat} (hl : l = cw1 ∨ l = cw2) (hc : cs.length = 26) (hs : Sgn cs) (hn : nzc cs ≤ 3) (h0 : ¬ ∀ c ∈ cs, c = 0) : 256 ≤ dotI cs l % 2305843009213693951 ∧ dotI cs l % 2305843009213693951 < 2305843009213693696 := by
  have hm : 0 ≤ dotI cs l % 2305843009213693951 ∧ dotI cs l % 2305843009213693951 < 2305843009213693951 := by omega
  have key : ∀ lo hi, cNone (cNz lo hi l []) = true → ¬ (lo ≤ (dotI cs l % q61).toNat ∧ (dotI cs l % q61).toNat < hi) := fun lo hi hk h => by
    have hv : ∀ v ∈ l, v ≤ q61 := by rcases hl with rfl | rfl; exact cw_le.1; exact cw_le.2
    have hlen : cs.length = l.length := by rcases hl with rfl | rfl <;> exact hc
    exact cNone_nil hk (cNz_mem lo hi l [] cs hlen hs hn h0 hv _ (by rw [Int.sub_self]; exact Int.dvd_zero _) h.1 h.2)
  have e : (dotI cs l % q61) = dotI cs l % 2305843009213693951 := rfl
  rw [e] at key
  have a : ¬ (0 ≤ (dotI cs l % 2305843009213693951).toNat ∧ (dotI cs l % 2305843009213693951).toNat < 256) := by
    rcases hl with rfl | rfl
    · exact key 0 256 cLow1
    · exact key 0 256 cLow2
  have b : ¬ (2305843009213693696 ≤ (dotI cs l % 2305843009213693951).toNat ∧ (dotI cs l % 2305843009213693951).toNat < 2305843009213693951) := by
    rcases hl with rfl | rfl
    · exact key _ _ cHigh1
    · exact key _ _ cHigh2
  generalize dotI cs l % 2305843009213693951 = x at *
  omega
theorem cChk_all {r lo x y : Nat} (h : cChk r = true) (e : r * 288230376151711744 = lo) (hx : x ∈ cNz lo (lo + 288230376151711744) cw1 []) (hy : y ∈ cNz (lo - 256) (lo + 288230376151711744 + 256) cw2 []) : x + 256 ≤ y ∨ y + 256 ≤ x := by
  subst e
  unfold cChk at h
  simp only [cForce_eq] at h
  exact cApart_all _ _ _ h hx hy
/-- both not zero, the first small: they do not meet -/
theorem c_two {cs ds : List Int} (hc : cs.length = 26) (hs : Sgn cs) (hn : nzc cs ≤ 3) (h0 : ¬ ∀ c ∈ cs, c = 0) (hc' : ds.length = 26) (hs' : Sgn ds) (hn' : nzc ds ≤ 3) (h0' : ¬ ∀ c ∈ ds, c = 0) {d : Int} (hd : -255 ≤ d ∧ d ≤ 255)
    (h : (2305843009213693951 : Int) ∣ dotI cs cw1 + dotI ds cw2 + d) (hsm : dotI cs cw1 % 2305843009213693951 < 1152921504606846976) : False := by
  obtain ⟨a1, a2⟩ := c_edge (.inl rfl) hc hs hn h0
  have hs2 := hs'.neg
  have hn2 : nzc (ds.map (- ·)) ≤ 3 := by rw [nzc_neg]; exact hn'
  have h02 : ¬ ∀ c ∈ ds.map (- ·), c = 0 := fun h => h0' (neg_zero h)
  have hl2 : (ds.map (- ·)).length = 26 := by rw [List.length_map]; exact hc'
  obtain ⟨b1, b2⟩ := c_edge (.inr rfl) hl2 hs2 hn2 h02
  have hm := fun lo hi => cNz_mem lo hi cw2 [] _ hl2 hs2 hn2 h02 cw_le.2 (dotI (ds.map (- ·)) cw2) (by rw [Int.sub_self]; exact Int.dvd_zero _)
  have hx := fun lo hi => cNz_mem lo hi cw1 [] _ hc hs hn h0 cw_le.1 (dotI cs cw1) (by rw [Int.sub_self]; exact Int.dvd_zero _)
  have e1 : (dotI cs cw1 % q61) = dotI cs cw1 % 2305843009213693951 := rfl
  have e2 : (dotI (ds.map (- ·)) cw2 % q61) = dotI (ds.map (- ·)) cw2 % 2305843009213693951 := rfl
  rw [e1] at hx
  rw [e2] at hm
  rw [dotI_neg] at hm b1 b2
  generalize dotI cs cw1 = u at *
  generalize dotI ds cw2 = v at *
  have hnear : (u % 2305843009213693951 - -v % 2305843009213693951) < 256 ∧ -256 < (u % 2305843009213693951 - -v % 2305843009213693951) := by omega
  have go : ∀ r lo : Nat, cChk r = true → r * 288230376151711744 = lo → lo ≤ (u % 2305843009213693951).toNat → (u % 2305843009213693951).toNat < lo + 288230376151711744 → False := fun r lo hr e g1 g2 => by
    have := cChk_all hr e (hx _ _ g1 g2) (hm _ _ (by omega) (by omega))
    omega
  have h4 : (u % 2305843009213693951).toNat < 288230376151711744 ∨ (288230376151711744 ≤ (u % 2305843009213693951).toNat ∧ (u % 2305843009213693951).toNat < 576460752303423488) ∨ (576460752303423488 ≤ (u % 2305843009213693951).toNat ∧ (u % 2305843009213693951).toNat < 864691128455135232) ∨ (864691128455135232 ≤ (u % 2305843009213693951).toNat ∧ (u % 2305843009213693951).toNat < 1152921504606846976) := by omega
  rcases h4 with h | h | h | h
  · exact go 0 0 cChk0 (by decide) (by omega) (by omega)
  · exact go 1 288230376151711744 cChk1 (by decide) (by omega) (by omega)
  · exact go 2 576460752303423488 cChk2 (by decide) (by omega) (by omega)
  · exact go 3 864691128455135232 cChk3 (by decide) (by omega) (by omega)
/-- flipped bits do not collide -/
theorem c_main {cs ds : List Int} (hc : cs.length = 26) (hs : Sgn cs) (hn : nzc cs ≤ 3) (hc' : ds.length = 26) (hs' : Sgn ds) (hn' : nzc ds ≤ 3) {d : Int} (hd : -255 ≤ d ∧ d ≤ 255)
    (h : (2305843009213693951 : Int) ∣ dotI cs cw1 + dotI ds cw2 + d) : (∀ c ∈ cs, c = 0) ∧ ∀ c ∈ ds, c = 0 := by
  by_cases h0 : ∀ c ∈ cs, c = 0
  · refine ⟨h0, Classical.byContradiction fun h0' => ?_⟩
    rw [dotI_zero _ _ h0] at h
    obtain ⟨b1, b2⟩ := c_edge (.inr rfl) hc' hs' hn' h0'
    omega
  · exfalso
    by_cases h0' : ∀ c ∈ ds, c = 0
    · rw [dotI_zero ds _ h0'] at h
      obtain ⟨b1, b2⟩ := c_edge (.inl rfl) hc hs hn h0
      omega
    · rcases Int.lt_or_le (dotI cs cw1 % 2305843009213693951) 1152921504606846976 with hlt | hge
      · exact c_two hc hs hn h0 hc' hs' hn' h0' hd h hlt
      · have hh : (2305843009213693951 : Int) ∣ dotI (cs.map (- ·)) cw1 + dotI (ds.map (- ·)) cw2 + -d := by
          rw [dotI_neg, dotI_neg]
          omega
        refine c_two (by rw [List.length_map]; exact hc) hs.neg (by rw [nzc_neg]; exact hn) (fun h => h0 (neg_zero h)) (by rw [List.length_map]; exact hc') hs'.neg (by rw [nzc_neg]; exact hn') (fun h => h0' (neg_zero h)) (d := -d) (by omega) hh ?_
        rw [dotI_neg]
        omega
end
end Go.Proofs.Ytpoiejgoongllaa
