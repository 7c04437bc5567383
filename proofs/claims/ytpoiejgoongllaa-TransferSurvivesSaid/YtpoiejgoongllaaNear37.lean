/-
  Packets that differ in at most three of their first 26 bits; the fingerprint of contents that are put together from such packets (plain).
-/
import Derived.Test.YtpoiejgoongllaaColl37b
import Derived.Test.YtpoiejgoongllaaChan37
namespace Go.Proofs.Ytpoiejgoongllaa
section
set_option linter.unusedVariables false
set_option linter.unusedSimpArgs false
set_option linter.unnecessarySimpa false

def bitZ (z : Int) (k : Nat) : Int := (z / (2 ^ k : Nat)) % 2
def bitAt (zs : List Int) (b : Nat) : Int := bitZ (zs.getD (b / 8) 0) (b % 8)
theorem bitZ_01 (z : Int) (k : Nat) : bitZ z k = 0 ∨ bitZ z k = 1 := by unfold bitZ; omega
theorem bitZ_sum {z : Int} (h0 : 0 ≤ z) (h1 : z ≤ 255) : z = bitZ z 0 + 2 * bitZ z 1 + 4 * bitZ z 2 + 8 * bitZ z 3 + 16 * bitZ z 4 + 32 * bitZ z 5 + 64 * bitZ z 6 + 128 * bitZ z 7 := by
  unfold bitZ
  simp only [show (2 ^ 0 : Nat) = 1 from rfl, show (2 ^ 1 : Nat) = 2 from rfl, show (2 ^ 2 : Nat) = 4 from rfl, show (2 ^ 3 : Nat) = 8 from rfl, show (2 ^ 4 : Nat) = 16 from rfl, show (2 ^ 5 : Nat) = 32 from rfl, show (2 ^ 6 : Nat) = 64 from rfl, show (2 ^ 7 : Nat) = 128 from rfl]
  omega
theorem flip_tab : ((List.range 256).all fun z => (List.range 8).all fun k => (List.range 8).all fun j => k == j || decide (bitZ (flipV (z : Int) k) j = bitZ (z : Int) j)) = true := by decide +kernel
theorem flipV_bit {z : Int} (h0 : 0 ≤ z) (h1 : z ≤ 255) {k j : Nat} (hk : k < 8) (hj : j < 8) (h : j ≠ k) : bitZ (flipV z k) j = bitZ z j := by
  have h2 := List.all_eq_true.1 flip_tab z.toNat (List.mem_range.2 (by omega))
  have h3 := List.all_eq_true.1 (List.all_eq_true.1 h2 k (List.mem_range.2 hk)) j (List.mem_range.2 hj)
  rw [show ((z.toNat : Nat) : Int) = z by omega] at h3
  simp only [Bool.or_eq_true, beq_iff_eq, decide_eq_true_eq] at h3
  rcases h3 with h3 | h3
  · exact absurd h3.symm h
  · exact h3
theorem Byt.getD {zs : List Int} (h : Byt zs) (i : Nat) : 0 ≤ zs.getD i 0 ∧ zs.getD i 0 ≤ 255 := by
  rw [List.getD_eq_getElem?_getD]
  rcases Nat.lt_or_ge i zs.length with hi | hi
  · rw [List.getElem?_eq_getElem hi]; exact h _ (List.getElem_mem hi)
  · rw [List.getElem?_eq_none hi]; simp
theorem getD_set (zs : List Int) (i j : Nat) (v : Int) : (zs.set i v).getD j 0 = if i = j ∧ i < zs.length then v else zs.getD j 0 := by
  rw [List.getD_eq_getElem?_getD, List.getD_eq_getElem?_getD, List.getElem?_set]
  by_cases h : i = j
  · subst h
    by_cases hl : i < zs.length
    · simp [hl]
    · simp [hl]
  · simp [h]
theorem flipZ_bit {zs : List Int} (h : Byt zs) {b c : Nat} (hne : c ≠ b) : bitAt (flipZ zs b) c = bitAt zs c := by
  unfold bitAt flipZ
  rw [getD_set]
  split
  · rename_i e
    obtain ⟨e, hl⟩ := e
    rw [e]
    obtain ⟨h0, h1⟩ := h.getD (c / 8)
    exact flipV_bit h0 h1 (Nat.mod_lt _ (by decide)) (Nat.mod_lt _ (by decide)) (by omega)
  · rfl
/-- the bits that differ, with their signs -/
def dl (zs ys : List Int) : List Int := (List.range 26).map fun b => bitAt ys b - bitAt zs b
theorem dl_len (zs ys : List Int) : (dl zs ys).length = 26 := by simp [dl]
theorem dl_sgn (zs ys : List Int) : Sgn (dl zs ys) := fun c hc => by
  obtain ⟨b, _, rfl⟩ := List.mem_map.1 hc
  rcases bitZ_01 (ys.getD (b / 8) 0) (b % 8) with h1 | h1 <;> rcases bitZ_01 (zs.getD (b / 8) 0) (b % 8) with h2 | h2 <;> (unfold bitAt; rw [h1, h2]; decide)
structure Near (m : Nat) (zs ys : List Int) : Prop where
  len : ys.length = zs.length
  byt : Byt ys
  rest : ys.drop 4 = zs.drop 4
  top : ∀ b, 26 ≤ b → b < 32 → bitAt ys b = bitAt zs b
  cnt : nzc (dl zs ys) ≤ m
theorem nzc_one (f g : Nat → Int) (b : Nat) (h : ∀ c, c ≠ b → g c = f c) : ∀ n, nzc ((List.range n).map g) ≤ nzc ((List.range n).map f) + (if b < n then 1 else 0)
  | 0 => Nat.le_refl _
  | n + 1 => by
    have ih := nzc_one f g b h n
    have e : ∀ u : Nat → Int, nzc ((List.range (n + 1)).map u) = nzc ((List.range n).map u) + nzc [u n] := fun u => by
      rw [List.range_succ, List.map_append]; unfold nzc; rw [List.countP_append]; rfl
    rw [e, e]
    by_cases hb : n = b
    · subst hb
      have h1 : nzc [g n] ≤ 1 := List.countP_le_length
      rw [if_neg (Nat.lt_irrefl _)] at ih
      rw [if_pos (Nat.lt_succ_self _)]
      omega
    · rw [h n hb]
      have : (if b < n then 1 else 0) ≤ (if b < n + 1 then 1 else 0) := by split <;> split <;> omega
      omega
theorem Near.refl {zs : List Int} (h : Byt zs) : Near 0 zs zs := ⟨rfl, h, rfl, fun _ _ _ => rfl, by
  refine Nat.le_of_eq (List.countP_eq_zero.2 fun c hc => ?_)
  obtain ⟨b, _, rfl⟩ := List.mem_map.1 hc
  simp⟩
theorem flipZ_bytN {zs : List Int} (h : Byt zs) (b : Nat) : Byt (flipZ zs b) := by
  unfold flipZ
  intro z hz
  rcases List.mem_or_eq_of_mem_set hz with hz | rfl
  · exact h z hz
  · unfold flipV
    exact ⟨bits_lo_u8 _ _ _, bits_hi_u8 _ _ _⟩
theorem Near.flip {m : Nat} {zs ys : List Int} (h : Near m zs ys) {b : Nat} (hb : b < 26) : Near (m + 1) zs (flipZ ys b) where
  len := by rw [flipZ_length]; exact h.len
  byt := flipZ_bytN h.byt b
  rest := by
    rw [← h.rest]
    unfold flipZ
    rw [List.drop_set_of_lt (by omega)]
  top := fun c h1 h2 => by rw [flipZ_bit h.byt (by omega)]; exact h.top c h1 h2
  cnt := by
    have h1 := nzc_one (fun c => bitAt ys c - bitAt zs c) (fun c => bitAt (flipZ ys b) c - bitAt zs c) b (fun c hc => by rw [flipZ_bit h.byt hc]) 26
    rw [if_pos hb] at h1
    have h2 := h.cnt
    unfold dl at h2 ⊢
    omega
theorem Near.mono {m n : Nat} {zs ys : List Int} (h : Near m zs ys) (hn : m ≤ n) : Near n zs ys := ⟨h.len, h.byt, h.rest, h.top, Nat.le_trans h.cnt hn⟩
theorem dl_get (zs ys : List Int) (h : ∀ c ∈ dl zs ys, c = 0) (b : Nat) (hb : b < 26) : bitAt ys b = bitAt zs b := by
  have := h (bitAt ys b - bitAt zs b) (List.mem_map.2 ⟨b, List.mem_range.2 hb, rfl⟩)
  omega
/-- a byte is its bits -/
theorem byte_bits {zs ys : List Int} (hz : Byt zs) (hy : Byt ys) (j : Nat) (h : ∀ k, k < 8 → bitAt ys (8 * j + k) = bitAt zs (8 * j + k)) : ys.getD j 0 = zs.getD j 0 := by
  obtain ⟨a0, a1⟩ := hz.getD j
  obtain ⟨b0, b1⟩ := hy.getD j
  have e : ∀ k, k < 8 → bitZ (ys.getD j 0) k = bitZ (zs.getD j 0) k := fun k hk => by
    have := h k hk
    unfold bitAt at this
    rwa [show (8 * j + k) / 8 = j by omega, show (8 * j + k) % 8 = k by omega] at this
  rw [bitZ_sum a0 a1, bitZ_sum b0 b1, e 0 (by omega), e 1 (by omega), e 2 (by omega), e 3 (by omega), e 4 (by omega), e 5 (by omega), e 6 (by omega), e 7 (by omega)]
theorem Near.eq {m : Nat} {zs ys : List Int} (h : Near m zs ys) (hz : Byt zs) (h0 : ∀ c ∈ dl zs ys, c = 0) : ys = zs := by
  have hb : ∀ b, b < 32 → bitAt ys b = bitAt zs b := fun b hb => by
    rcases Nat.lt_or_ge b 26 with h1 | h1
    · exact dl_get zs ys h0 b h1
    · exact h.top b h1 hb
  have hj : ∀ j, j < 4 → ys.getD j 0 = zs.getD j 0 := fun j hj => byte_bits hz h.byt j (fun k hk => hb _ (by omega))
  have h4 : ys.take 4 = zs.take 4 := by
    apply List.ext_getElem
    · rw [List.length_take, List.length_take, h.len]
    · intro i h1 h2
      rw [List.length_take] at h1 h2
      have := hj i (by omega)
      rw [List.getD_eq_getElem?_getD, List.getD_eq_getElem?_getD, List.getElem?_eq_getElem (by omega), List.getElem?_eq_getElem (by omega)] at this
      rw [List.getElem_take, List.getElem_take]
      exact this
  rw [← List.take_append_drop 4 ys, ← List.take_append_drop 4 zs, h4, h.rest]
/-- the polynomial of the bytes, not reduced -/
def pq (zs : List Int) : Int := zs.foldl (fun s z => s * 747382712868975713 + (z + 1)) 0
theorem pq_from (zs : List Int) : ∀ s : Int, zs.foldl (fun s z => s * 747382712868975713 + (z + 1)) s = s * 747382712868975713 ^ zs.length + pq zs := by
  unfold pq
  induction zs with
  | nil => intro s; simp
  | cons z zs ih =>
    intro s
    rw [List.foldl_cons, List.foldl_cons, ih, ih (0 * 747382712868975713 + (z + 1)), List.length_cons, Int.pow_succ, Int.zero_mul, Int.zero_add, Int.add_mul, Int.mul_assoc, Int.mul_comm 747382712868975713 (747382712868975713 ^ zs.length)]
    omega
theorem pq_append (a b : List Int) : pq (a ++ b) = pq a * 747382712868975713 ^ b.length + pq b := by
  conv => lhs; unfold pq
  rw [List.foldl_append, pq_from]
  rfl
theorem sumZ_pq (zs : List Int) : sumZ zs = pq zs % 2305843009213693951 := by
  unfold sumZ pq
  have h : ∀ (s t : Int), s = t % 2305843009213693951 → zs.foldl stepZ s = (zs.foldl (fun s z => s * 747382712868975713 + (z + 1)) t) % 2305843009213693951 := by
    induction zs with
    | nil => intro s t h; exact h
    | cons z zs ih =>
      intro s t h
      rw [List.foldl_cons, List.foldl_cons]
      refine ih _ _ ?_
      unfold stepZ fadd fmul
      omega
  exact h 0 0 rfl
def cV : List Nat := [417473722969311349153785781275738989693475626092792097, 834947445938622698307571562551477979386951252185584194, 1669894891877245396615143125102955958773902504371168388, 3339789783754490793230286250205911917547805008742336776, 6679579567508981586460572500411823835095610017484673552, 13359159135017963172921145000823647670191220034969347104, 26718318270035926345842290001647295340382440069938694208, 53436636540071852691684580003294590680764880139877388416, 558580919495389794843266101783858369, 1117161838990779589686532203567716738, 2234323677981559179373064407135433476, 4468647355963118358746128814270866952, 8937294711926236717492257628541733904, 17874589423852473434984515257083467808, 35749178847704946869969030514166935616, 71498357695409893739938061028333871232, 747382712868975713, 1494765425737951426, 2989530851475902852, 5979061702951805704, 11958123405903611408, 23916246811807222816, 47832493623614445632, 95664987247228891264, 1, 2]
def hdZ (zs ys : List Int) : Int := (ys.getD 0 0 - zs.getD 0 0) * 417473722969311349153785781275738989693475626092792097 + (ys.getD 1 0 - zs.getD 1 0) * 558580919495389794843266101783858369 + (ys.getD 2 0 - zs.getD 2 0) * 747382712868975713 + (ys.getD 3 0 - zs.getD 3 0)

theorem dl_list (zs ys : List Int) : dl zs ys = [bitAt ys 0 - bitAt zs 0, bitAt ys 1 - bitAt zs 1, bitAt ys 2 - bitAt zs 2, bitAt ys 3 - bitAt zs 3, bitAt ys 4 - bitAt zs 4, bitAt ys 5 - bitAt zs 5, bitAt ys 6 - bitAt zs 6, bitAt ys 7 - bitAt zs 7, bitAt ys 8 - bitAt zs 8, bitAt ys 9 - bitAt zs 9, bitAt ys 10 - bitAt zs 10, bitAt ys 11 - bitAt zs 11, bitAt ys 12 - bitAt zs 12, bitAt ys 13 - bitAt zs 13, bitAt ys 14 - bitAt zs 14, bitAt ys 15 - bitAt zs 15, bitAt ys 16 - bitAt zs 16, bitAt ys 17 - bitAt zs 17, bitAt ys 18 - bitAt zs 18, bitAt ys 19 - bitAt zs 19, bitAt ys 20 - bitAt zs 20, bitAt ys 21 - bitAt zs 21, bitAt ys 22 - bitAt zs 22, bitAt ys 23 - bitAt zs 23, bitAt ys 24 - bitAt zs 24, bitAt ys 25 - bitAt zs 25] := rfl
theorem byte_diff {zs ys : List Int} (hz : Byt zs) (hy : Byt ys) (j : Nat) : ys.getD j 0 - zs.getD j 0 = (bitAt ys (8 * j) - bitAt zs (8 * j)) + 2 * (bitAt ys (8 * j + 1) - bitAt zs (8 * j + 1)) + 4 * (bitAt ys (8 * j + 2) - bitAt zs (8 * j + 2)) + 8 * (bitAt ys (8 * j + 3) - bitAt zs (8 * j + 3)) +
    16 * (bitAt ys (8 * j + 4) - bitAt zs (8 * j + 4)) + 32 * (bitAt ys (8 * j + 5) - bitAt zs (8 * j + 5)) + 64 * (bitAt ys (8 * j + 6) - bitAt zs (8 * j + 6)) + 128 * (bitAt ys (8 * j + 7) - bitAt zs (8 * j + 7)) := by
  obtain ⟨a0, a1⟩ := hz.getD j
  obtain ⟨b0, b1⟩ := hy.getD j
  have e : ∀ (l : List Int) k, k < 8 → bitAt l (8 * j + k) = bitZ (l.getD j 0) k := fun l k hk => by
    unfold bitAt
    rw [show (8 * j + k) / 8 = j by omega, show (8 * j + k) % 8 = k by omega]
  have h1 := bitZ_sum a0 a1
  have h2 := bitZ_sum b0 b1
  have e0 : ∀ l : List Int, bitAt l (8 * j) = bitZ (l.getD j 0) 0 := fun l => e l 0 (by omega)
  rw [e0, e0, e ys 1 (by omega), e zs 1 (by omega), e ys 2 (by omega), e zs 2 (by omega), e ys 3 (by omega), e zs 3 (by omega), e ys 4 (by omega), e zs 4 (by omega), e ys 5 (by omega), e zs 5 (by omega), e ys 6 (by omega), e zs 6 (by omega), e ys 7 (by omega), e zs 7 (by omega)]
  omega
theorem hdZ_dot {m : Nat} {zs ys : List Int} (h : Near m zs ys) (hz : Byt zs) : hdZ zs ys = dotI (dl zs ys) cV := by
  have d0 := byte_diff hz h.byt 0
  have d1 := byte_diff hz h.byt 1
  have d2 := byte_diff hz h.byt 2
  have d3 := byte_diff hz h.byt 3
  have t0 := h.top 26 (by omega) (by omega)
  have t1 := h.top 27 (by omega) (by omega)
  have t2 := h.top 28 (by omega) (by omega)
  have t3 := h.top 29 (by omega) (by omega)
  have t4 := h.top 30 (by omega) (by omega)
  have t5 := h.top 31 (by omega) (by omega)
  simp only [Nat.mul_zero, Nat.zero_add, Nat.reduceMul, Nat.reduceAdd] at d0 d1 d2 d3
  rw [dl_list]
  unfold hdZ cV
  rw [d0, d1, d2, d3, t0, t1, t2, t3, t4, t5]
  simp only [dotI]
  simp only [Int.sub_self, Int.mul_zero, Int.add_zero]

  generalize bitAt ys 0 - bitAt zs 0 = x0
  generalize bitAt ys 1 - bitAt zs 1 = x1
  generalize bitAt ys 2 - bitAt zs 2 = x2
  generalize bitAt ys 3 - bitAt zs 3 = x3
  generalize bitAt ys 4 - bitAt zs 4 = x4
  generalize bitAt ys 5 - bitAt zs 5 = x5
  generalize bitAt ys 6 - bitAt zs 6 = x6
  generalize bitAt ys 7 - bitAt zs 7 = x7
  generalize bitAt ys 8 - bitAt zs 8 = x8
  generalize bitAt ys 9 - bitAt zs 9 = x9
  generalize bitAt ys 10 - bitAt zs 10 = x10
  generalize bitAt ys 11 - bitAt zs 11 = x11
  generalize bitAt ys 12 - bitAt zs 12 = x12
  generalize bitAt ys 13 - bitAt zs 13 = x13
  generalize bitAt ys 14 - bitAt zs 14 = x14
  generalize bitAt ys 15 - bitAt zs 15 = x15
  generalize bitAt ys 16 - bitAt zs 16 = x16
  generalize bitAt ys 17 - bitAt zs 17 = x17
  generalize bitAt ys 18 - bitAt zs 18 = x18
  generalize bitAt ys 19 - bitAt zs 19 = x19
  generalize bitAt ys 20 - bitAt zs 20 = x20
  generalize bitAt ys 21 - bitAt zs 21 = x21
  generalize bitAt ys 22 - bitAt zs 22 = x22
  generalize bitAt ys 23 - bitAt zs 23 = x23
  generalize bitAt ys 24 - bitAt zs 24 = x24
  generalize bitAt ys 25 - bitAt zs 25 = x25
  omega
theorem getD_cons0 (a : Int) (l : List Int) : (a :: l).getD 0 0 = a := rfl
theorem getD_consS (a : Int) (l : List Int) (i : Nat) : (a :: l).getD (i + 1) 0 = l.getD i 0 := rfl
theorem getD_nil (i : Nat) : ([] : List Int).getD i 0 = 0 := by cases i <;> rfl
/-- what packets differ by -/
theorem pq_diff {m : Nat} {zs ys : List Int} (h : Near m zs ys) : (pq ys - pq zs) * 312012643624315134978957129026803571854597200305916554740132480651340161 = hdZ zs ys * 747382712868975713 ^ zs.length := by
  have hl := h.len
  have hr := h.rest
  match zs, ys, hl, hr with
  | [], [], _, _ => rfl
  | [a], [a'], _, _ =>
    simp only [pq, List.foldl_cons, List.foldl_nil, hdZ, getD_cons0, getD_consS, getD_nil, List.length_cons, List.length_nil, show ([a'] : List Int).getD 1 0 = 0 from rfl, show ([a] : List Int).getD 1 0 = 0 from rfl, show ([a'] : List Int).getD 2 0 = 0 from rfl, show ([a] : List Int).getD 2 0 = 0 from rfl, show ([a'] : List Int).getD 3 0 = 0 from rfl, show ([a] : List Int).getD 3 0 = 0 from rfl]
    rw [show (747382712868975713 : Int) ^ (0 + 1) = 747382712868975713 from rfl]
    omega
  | [a, b], [a', b'], _, _ =>
    simp only [pq, List.foldl_cons, List.foldl_nil, hdZ, show ([a', b'] : List Int).getD 0 0 = a' from rfl, show ([a, b] : List Int).getD 0 0 = a from rfl, show ([a', b'] : List Int).getD 1 0 = b' from rfl, show ([a, b] : List Int).getD 1 0 = b from rfl, show ([a', b'] : List Int).getD 2 0 = 0 from rfl, show ([a, b] : List Int).getD 2 0 = 0 from rfl, show ([a', b'] : List Int).getD 3 0 = 0 from rfl, show ([a, b] : List Int).getD 3 0 = 0 from rfl]
    rw [show ([a, b] : List Int).length = 2 from rfl, show (747382712868975713 : Int) ^ 2 = 558580919495389794843266101783858369 by decide]
    omega
  | [a, b, c], [a', b', c'], _, _ =>
    simp only [pq, List.foldl_cons, List.foldl_nil, hdZ, show ([a', b', c'] : List Int).getD 0 0 = a' from rfl, show ([a, b, c] : List Int).getD 0 0 = a from rfl, show ([a', b', c'] : List Int).getD 1 0 = b' from rfl, show ([a, b, c] : List Int).getD 1 0 = b from rfl, show ([a', b', c'] : List Int).getD 2 0 = c' from rfl, show ([a, b, c] : List Int).getD 2 0 = c from rfl, show ([a', b', c'] : List Int).getD 3 0 = 0 from rfl, show ([a, b, c] : List Int).getD 3 0 = 0 from rfl]
    rw [show ([a, b, c] : List Int).length = 3 from rfl, show (747382712868975713 : Int) ^ 3 = 417473722969311349153785781275738989693475626092792097 by decide]
    omega
  | a :: b :: c :: d :: t, a' :: b' :: c' :: d' :: t', _, hr =>
    have ht : t' = t := hr
    subst ht
    have e1 : pq (a' :: b' :: c' :: d' :: t') = pq [a', b', c', d'] * 747382712868975713 ^ t'.length + pq t' := pq_append [a', b', c', d'] t'
    have e2 : pq (a :: b :: c :: d :: t') = pq [a, b, c, d] * 747382712868975713 ^ t'.length + pq t' := pq_append [a, b, c, d] t'
    have e3 : hdZ (a :: b :: c :: d :: t') (a' :: b' :: c' :: d' :: t') = pq [a', b', c', d'] - pq [a, b, c, d] := by
      simp only [pq, List.foldl_cons, List.foldl_nil, hdZ, show (a' :: b' :: c' :: d' :: t').getD 0 0 = a' from rfl, show (a :: b :: c :: d :: t').getD 0 0 = a from rfl, show (a' :: b' :: c' :: d' :: t').getD 1 0 = b' from rfl, show (a :: b :: c :: d :: t').getD 1 0 = b from rfl, show (a' :: b' :: c' :: d' :: t').getD 2 0 = c' from rfl, show (a :: b :: c :: d :: t').getD 2 0 = c from rfl, show (a' :: b' :: c' :: d' :: t').getD 3 0 = d' from rfl, show (a :: b :: c :: d :: t').getD 3 0 = d from rfl]
      omega
    have e4 : (747382712868975713 : Int) ^ (a :: b :: c :: d :: t').length = 747382712868975713 ^ t'.length * 312012643624315134978957129026803571854597200305916554740132480651340161 := by
      rw [show (a :: b :: c :: d :: t').length = t'.length + 4 from rfl, Int.pow_add]; rfl
    rw [e1, e2, e3, e4]
    generalize pq [a', b', c', d'] = x
    generalize pq [a, b, c, d] = y
    generalize (747382712868975713 : Int) ^ t'.length = z
    rw [show x * z + pq t' - (y * z + pq t') = x * z - y * z by omega, ← Int.sub_mul, Int.mul_assoc]
end
end Go.Proofs.Ytpoiejgoongllaa
