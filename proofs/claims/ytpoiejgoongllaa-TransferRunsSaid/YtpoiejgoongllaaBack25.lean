/-
  What the pieces of a range are together: a part of the whole text.
-/
import Derived.Test.YtpoiejgoongllaaKnown25
import Derived.Test.YtpoiejgoongllaaWhole25
import Derived.Test.YtpoiejgoongllaaDist25
namespace Go.Proofs.Ytpoiejgoongllaa
set_option linter.unusedVariables false
set_option linter.unusedSimpArgs false
set_option linter.unnecessarySimpa false
open Go.RowKit

/-- the part of a text from f to t -/
def subZ (f t : Nat) (xs : List Int) : List Int := (xs.take t).drop f
theorem subZ_append (f t : Nat) (xs ys : List Int) : subZ f t (xs ++ ys) = subZ f t xs ++ subZ (f - xs.length) (t - xs.length) ys := by
  unfold subZ
  rw [List.take_append, List.drop_append, List.length_take]
  by_cases h : t ≤ xs.length
  · rw [Nat.sub_eq_zero_of_le h]; simp
  · rw [Nat.min_eq_right (by omega)]
theorem subZ_nil (f t : Nat) : subZ f t [] = [] := by simp [subZ]
theorem subZ_whole {xs : List Int} {n : Nat} (h : xs.length = n) : subZ 0 n xs = xs := by subst h; simp [subZ]
theorem subZ_len {f t : Nat} {xs : List Int} (h : t ≤ xs.length) : (subZ f t xs).length = t - f := by
  unfold subZ; rw [List.length_drop, List.length_take]; omega
theorem take_drop_sub (xs : List Int) (a c : Nat) : (xs.drop a).take (c - a) = subZ a c xs := by
  unfold subZ; rw [List.drop_take]
theorem sumN_texts (ts : List (List Int)) : sumN (ts.map idOf) = ((ts.flatten).length : Int) := by
  induction ts with
  | nil => rfl
  | cons t ts ih =>
    simp only [sumN, List.map_cons, List.sum_cons, List.flatten_cons, List.length_append] at ih ⊢
    rw [ih, Int.natCast_add]; rfl
/-- the bytes of the pieces of a range, if each found chunk has the bytes of its text -/
theorem rgB_sub {l : List ChZ} {ts : List (List Int)} {f t : Nat} (hg : ∀ i (h : i < ts.length), (∃ p ∈ slK f t (ts.map idOf) ts.length, p.1 = i) → (fndP l (idOf ts[i])).zs = ts[i]) : ∀ k, k ≤ ts.length → rgB l (ts.map idOf) (slK f t (ts.map idOf) k) = subZ f t (ts.take k).flatten := by
  intro k
  induction k with
  | zero => intro _; simp [slK, rgB, subZ]
  | succ k ih =>
    intro hk
    have hk' : k < ts.length := by omega
    have hkm : k < (ts.map idOf).length := by simpa using hk'
    rw [slK_succ hkm, List.take_succ_eq_append_getElem hk', List.flatten_append, subZ_append, List.flatten_singleton]
    unfold rgB
    rw [List.flatMap_append]
    have ih' := ih (by omega)
    unfold rgB at ih'
    rw [ih']
    congr 1
    have hs : sumN ((ts.map idOf).take k) = (((ts.take k).flatten).length : Int) := by rw [← List.map_take]; exact sumN_texts _
    rw [hs, List.getElem_map]
    have hsub : ∀ m, k < m → m ≤ ts.length → ∀ p ∈ pcAt f t (sumN ((ts.map idOf).take k)) k (idOf ts[k]).2, p ∈ slK f t (ts.map idOf) m := by
      intro m
      induction m with
      | zero => intro h; omega
      | succ m ihm =>
        intro h1 h2 p hp
        rw [slK_succ (by rw [List.length_map]; omega), List.mem_append]
        by_cases e : k = m
        · subst e; right; rw [List.getElem_map]; exact hp
        · left; exact ihm (by omega) (by omega) p hp
    rw [hs] at hsub
    generalize ((ts.take k).flatten).length = at' at *
    unfold pcAt at hsub ⊢
    split
    · rename_i hlt
      rw [if_pos hlt] at hsub
      have hm := hsub ts.length hk' (Nat.le_refl _) _ (List.mem_singleton.2 rfl)
      have hz := hg k hk' ⟨_, hm, rfl⟩
      simp only [List.flatMap_cons, List.flatMap_nil, List.append_nil]
      unfold pcB
      have hgd : (ts.map idOf).getD k (0, 0) = idOf ts[k] := by rw [List.getD_eq_getElem?_getD, List.getElem?_eq_getElem hkm, List.getElem_map]; rfl
      simp only
      rw [hgd, hz]
      have e1 : (max ((f : Int) - at') 0).toNat = f - at' := by omega
      have e2 : (min ((t : Int) - at') (idOf ts[k]).2 - max ((f : Int) - at') 0).toNat = min (t - at') ts[k].length - (f - at') := by unfold idOf; simp only; omega
      rw [e1, e2, take_drop_sub]
      unfold subZ
      rw [Nat.min_comm, ← List.take_take, List.take_of_length_le (l := List.take (t - at') ts[k]) (by rw [List.length_take]; omega)]
    · rename_i hlt
      simp only [List.flatMap_nil]
      unfold subZ
      symm
      apply List.drop_eq_nil_of_le
      rw [List.length_take]
      unfold idOf at hlt
      simp only at hlt
      omega
theorem idOf_append (xs ys : List Int) (h : (xs ++ ys).length ≤ 1048576) : jnS (idOf xs) (idOf ys) = idOf (xs ++ ys) := by
  rw [List.length_append] at h
  unfold jnS idOf
  simp only
  rw [joinR_ok (vld_sum (by omega)) (vld_sum (by omega)) (by omega), sumZ_append, powI_in (by omega) (by omega), List.length_append]
  simp
theorem whS_texts : ∀ (ts : List (List Int)) (xs : List Int), (xs ++ ts.flatten).length ≤ 1048576 → (ts.map idOf).foldl jnS (idOf xs) = idOf (xs ++ ts.flatten)
  | [], xs, _ => by simp
  | t :: ts, xs, h => by
    rw [List.flatten_cons, ← List.append_assoc] at h ⊢
    rw [List.map_cons, List.foldl_cons, idOf_append xs t (by rw [List.length_append] at h; omega)]
    exact whS_texts ts (xs ++ t) h
/-- the ID of the whole text is the join of the IDs of its parts -/
theorem whS_flat (ts : List (List Int)) (h : ts.flatten.length ≤ 1048576) : whS (ts.map idOf) = idOf ts.flatten := by
  have := whS_texts ts [] (by simpa using h)
  rw [List.nil_append] at this
  exact this
theorem idsOf_texts (ps : List Part) : idsOf ps = (ps.map Part.zs).map idOf := by unfold idsOf; rw [List.map_map]; rfl
theorem flat_texts (ps : List Part) : flat ps = (ps.map Part.zs).flatten := by unfold flat; rw [List.flatten_eq_flatMap, List.flatMap_map]; rfl
theorem whS_of {ps : List Part} (h : totP ps ≤ 1048576) : whS (idsOf ps) = idOf (flat ps) := by
  rw [idsOf_texts, flat_texts]
  exact whS_flat _ (by rw [← flat_texts, flat_len]; exact h)

/-- the chunks of parts -/
def rightC (ps : List Part) : List ChZ := ps.map fun p => ⟨idOf p.zs, p⟩
theorem rightC_length (ps : List Part) : (rightC ps).length = ps.length := by simp [rightC]
/-- chunks each of which is that of a part -/
def OfP (ps : List Part) (l : List ChZ) : Prop := ∀ c ∈ l, ∃ p ∈ ps, c = ⟨idOf p.zs, p⟩
theorem OfP.right (ps : List Part) : OfP ps (rightC ps) := fun c hc => by
  obtain ⟨p, hp, rfl⟩ := List.mem_map.1 hc
  exact ⟨p, hp, rfl⟩
/-- chunks whose IDs are right -/
def TrueC (l : List ChZ) : Prop := ∀ c ∈ l, c.id = idOf c.p.zs
theorem OfP.true {ps : List Part} {l : List ChZ} (h : OfP ps l) : TrueC l := fun c hc => by obtain ⟨p, _, rfl⟩ := h c hc; rfl
theorem fst_some {l : List ChZ} {x : IdZ} (h : ∃ c ∈ l, c.id = x) : ∃ c, fstC l x = some c ∧ c ∈ l ∧ c.id = x := by
  obtain ⟨c, hc, hx⟩ := h
  cases hf : fstC l x with
  | some d => exact ⟨d, rfl, fstC_mem hf⟩
  | none =>
    unfold fstC at hf
    have := List.find?_eq_none.1 hf c hc
    exact absurd hx (by simpa using this)
/-- a chunk whose ID is there is found, if all IDs are right -/
theorem fnd_true {l : List ChZ} (ht : TrueC l) {x : IdZ} (h : ∃ c ∈ l, c.id = x) : fndE l x = 0 := by
  obtain ⟨c, hf, hm, hx⟩ := fst_some h
  exact (fnd_ok hf (by rw [← ht c hm, hx])).1
/-- .. and its bytes are those of the part with the ID -/
theorem fnd_dist {ps : List Part} (hd : DistP ps) {l : List ChZ} (ho : OfP ps l) {k : Nat} (hk : k < ps.length) (h : ∃ c ∈ l, c.id = idOf ps[k].zs) : (fndP l (idOf ps[k].zs)).zs = ps[k].zs := by
  obtain ⟨c, hf, hm, hx⟩ := fst_some h
  obtain ⟨p, hp, rfl⟩ := ho c hm
  obtain ⟨j, hj, rfl⟩ := List.getElem_of_mem hp
  rw [(fnd_ok hf hx).2]
  exact hd j k hj hk hx
theorem slK_mem {f t : Int} {ids : List IdZ} {k : Nat} (hk : k ≤ ids.length) {p : PcZ} (hp : p ∈ slK f t ids k) : p.1 < ids.length := by
  obtain ⟨i, a, c, rfl, hi, _⟩ := slK_bd k hk p hp
  exact hi
theorem slE_ok {ps : List Part} {n : Int} (hn : chkM n (idsOf ps) = 0) {f t : Nat} (h1 : f ≤ t) (h2 : t ≤ totP ps) : slE n (idsOf ps) f t = 0 := by
  obtain ⟨_, _, h3, _⟩ := chkM_zero hn
  rw [totP_of] at h3
  unfold slE
  rw [if_pos hn, if_neg (by omega)]
/-- Range has no error, if chunks with right IDs are at hand for its pieces -/
theorem range_ok {ids : List IdZ} {l : List ChZ} (ht : TrueC l) {n : Int} {f t : Int} (hsl : slE n ids f t = 0) (hh : ∀ p ∈ slK f t ids ids.length, ∀ h : p.1 < ids.length, ∃ c ∈ l, c.id = ids[p.1]) : rangeE l n ids f t = 0 := by
  unfold rangeE
  rw [if_pos hsl]
  apply rgE_ok
  intro j hj
  have hm := List.getElem_mem hj
  have hlt := slK_mem (Nat.le_refl _) hm
  unfold pcE
  rw [List.getD_eq_getElem?_getD, List.getElem?_eq_getElem hlt]
  simp only [Option.getD_some]
  exact fnd_true ht (hh _ hm hlt)
/-- Range returns the part of the text, if the chunks of its pieces are at hand -/
theorem range_dist {ps : List Part} (hd : DistP ps) {l : List ChZ} (ho : OfP ps l) {n : Int} (hn : chkM n (idsOf ps) = 0) {f t : Nat} (h1 : f ≤ t) (h2 : t ≤ totP ps)
    (hh : ∀ p ∈ slK f t (idsOf ps) ps.length, ∀ h : p.1 < ps.length, ∃ c ∈ l, c.id = idOf ps[p.1].zs) : rangeE l n (idsOf ps) f t = 0 ∧ rangeB l n (idsOf ps) f t = subZ f t (flat ps) := by
  have hsl := slE_ok hn h1 h2
  have hE : rgE l (idsOf ps) (slK f t (idsOf ps) ps.length) = 0 := by
    apply rgE_ok
    intro j hj
    have hm := List.getElem_mem hj
    have hlt := slK_mem (by rw [idsOf_length]; exact Nat.le_refl _) hm
    have hlt' : (slK f t (idsOf ps) ps.length)[j].1 < ps.length := by rw [idsOf_length] at hlt; exact hlt
    unfold pcE
    rw [List.getD_eq_getElem?_getD, List.getElem?_eq_getElem hlt]
    have e : (idsOf ps)[(slK f t (idsOf ps) ps.length)[j].1] = idOf ps[(slK f t (idsOf ps) ps.length)[j].1].zs := by simp [idsOf]
    simp only [Option.getD_some]
    rw [e]
    exact fnd_true ho.true (hh _ hm hlt')
  have hE2 : rangeE l n (idsOf ps) f t = 0 := by unfold rangeE; rw [if_pos hsl, idsOf_length]; exact hE
  refine ⟨hE2, ?_⟩
  unfold rangeB
  rw [if_pos hE2, idsOf_length]
  have := rgB_sub (l := l) (ts := ps.map Part.zs) (f := f) (t := t) (fun i h hp => by
    obtain ⟨p, hp, rfl⟩ := hp
    have hi : p.1 < ps.length := by simpa using h
    rw [List.getElem_map]
    refine fnd_dist hd ho hi (hh p ?_ hi)
    rw [idsOf_texts]; simpa using hp) (ps.map Part.zs).length (Nat.le_refl _)
  rw [List.take_length, List.length_map, ← idsOf_texts, ← flat_texts] at this
  exact this
theorem whole_dist {ps : List Part} (hd : DistP ps) {n : Int} (hn : chkM n (idsOf ps) = 0) : rangeE (rightC ps) n (idsOf ps) 0 n = 0 ∧ rangeB (rightC ps) n (idsOf ps) 0 n = flat ps := by
  obtain ⟨_, _, h3, _⟩ := chkM_zero hn
  rw [totP_of] at h3
  have h := range_dist hd (OfP.right ps) hn (f := 0) (t := totP ps) (Nat.zero_le _) (Nat.le_refl _) (fun p hp hlt => ⟨⟨idOf ps[p.1].zs, ps[p.1]⟩, List.mem_map.2 ⟨ps[p.1], List.getElem_mem hlt, rfl⟩, rfl⟩)
  rw [show ((0 : Nat) : Int) = 0 from rfl, ← h3] at h
  exact ⟨h.1, by rw [h.2]; exact subZ_whole (flat_len ps)⟩

theorem elem_chunk : Elem Try.prog 29 64 3 40 := elem_mk (z := .agg #[.int .u64 0, .int .i64 0, .slice none 0 0]) Try.underlying29 (by kernel_rfl) rfl (by omega)
theorem right_snoc (ps : List Part) (k : Nat) (h : k < ps.length) : chsC (rightC (ps.take (k + 1))) = chsC (rightC (ps.take k)) ++ [.int .u64 (sumZ ps[k].zs), .int .i64 ps[k].zs.length, .slice ps[k].A ps[k].zs.length ps[k].cap] := by
  unfold rightC
  rw [List.take_succ_eq_append_getElem h, List.map_append, chsC_append]
  rfl
theorem right_ok {ps : List Part} (h : ∀ p ∈ ps, Byt p.zs ∧ p.zs.length ≤ 1048576) (hc : Caps ps) : OkC (rightC ps) := fun c hc' => by
  obtain ⟨p, hp, rfl⟩ := List.mem_map.1 hc'
  obtain ⟨h1, h2⟩ := h p hp
  exact ⟨idOf_wf (by omega), h1, hc p hp, by simp only; omega⟩
theorem right_lie {w : World} {B : Nat} {ps : List Part} (h : Lie w B ps) : LieC w B (rightC ps) := fun c hc => by
  obtain ⟨p, hp, rfl⟩ := List.mem_map.1 hc
  exact h p hp

theorem small_pm {ps : List Part} (h : SmallP ps) : ∀ p ∈ ps, Byt p.zs ∧ p.zs.length ≤ 1048576 := fun p hp => ⟨(h p hp).2.2, by have := (h p hp).2.1; omega⟩
/-- the chunks of pieces -/
def fewC (ps : List Part) (xs : List PcZ) : List ChZ := xs.map fun x => ⟨idOf (ps.getD x.1 ⟨none, 0, []⟩).zs, ps.getD x.1 ⟨none, 0, []⟩⟩
theorem fewC_length (ps : List Part) (xs : List PcZ) : (fewC ps xs).length = xs.length := by simp [fewC]
theorem few_snoc (ps : List Part) (xs : List PcZ) (k : Nat) (h : k < xs.length) {i : Nat} (hi : xs[k].1 = i) (hl : i < ps.length) : chsC (fewC ps (xs.take (k + 1))) = chsC (fewC ps (xs.take k)) ++ [.int .u64 (sumZ ps[i].zs), .int .i64 ps[i].zs.length, .slice ps[i].A ps[i].zs.length ps[i].cap] := by
  unfold fewC
  rw [List.take_succ_eq_append_getElem h, List.map_append, chsC_append]
  subst hi
  have e : ps.getD xs[k].1 ⟨none, 0, []⟩ = ps[xs[k].1] := by rw [List.getD_eq_getElem?_getD, List.getElem?_eq_getElem hl]; rfl
  simp only [List.map_cons, List.map_nil, e]
  rfl
theorem few_of {ps : List Part} {xs : List PcZ} (h : ∀ x ∈ xs, x.1 < ps.length) : OfP ps (fewC ps xs) := fun c hc => by
  obtain ⟨x, hx, rfl⟩ := List.mem_map.1 hc
  have hl := h x hx
  have e : ps.getD x.1 ⟨none, 0, []⟩ = ps[x.1] := by rw [List.getD_eq_getElem?_getD, List.getElem?_eq_getElem hl]; rfl
  exact ⟨ps[x.1], List.getElem_mem hl, by rw [e]⟩
theorem of_okC {ps : List Part} {l : List ChZ} (ho : OfP ps l) (h : ∀ p ∈ ps, Byt p.zs ∧ p.zs.length ≤ 1048576) (hc : Caps ps) : OkC l := fun c hc' => by
  obtain ⟨p, hp, rfl⟩ := ho c hc'
  obtain ⟨h1, h2⟩ := h p hp
  exact ⟨idOf_wf (by omega), h1, hc p hp, by simp only; omega⟩
theorem of_lie {w : World} {B : Nat} {ps : List Part} {l : List ChZ} (ho : OfP ps l) (h : Lie w B ps) : LieC w B l := fun c hc => by
  obtain ⟨p, hp, rfl⟩ := ho c hc
  exact h p hp
/-- Range needs no other chunks than those of its pieces -/
theorem range_few {ps : List Part} (hd : DistP ps) {n : Int} (hn : chkM n (idsOf ps) = 0) {f t : Nat} (h1 : f ≤ t) (h2 : t ≤ totP ps) :
    OfP ps (fewC ps (slK f t (idsOf ps) ps.length)) ∧ rangeE (fewC ps (slK f t (idsOf ps) ps.length)) n (idsOf ps) f t = 0 ∧ rangeB (fewC ps (slK f t (idsOf ps) ps.length)) n (idsOf ps) f t = subZ f t (flat ps) := by
  have ho := few_of (ps := ps) (xs := slK f t (idsOf ps) ps.length) (fun x hx => by
    have := slK_mem (by rw [idsOf_length]; exact Nat.le_refl _) hx
    rwa [idsOf_length] at this)
  refine ⟨ho, range_dist hd ho hn h1 h2 (fun p hp hlt => ?_)⟩
  have e : ps.getD p.1 ⟨none, 0, []⟩ = ps[p.1] := by rw [List.getD_eq_getElem?_getD, List.getElem?_eq_getElem hlt]; rfl
  exact ⟨⟨idOf (ps.getD p.1 ⟨none, 0, []⟩).zs, ps.getD p.1 ⟨none, 0, []⟩⟩, List.mem_map.2 ⟨p, hp, rfl⟩, by simp only; rw [e]⟩

theorem conv_rowN {w : World} {B : Nat} {A : Option Addr} {zs : List Int} (hr : Row w B A (zs.map (.int .u8))) (cap : Nat) {n : Nat} (h : zs.length = n) : (convert 38 9 (.slice A n cap)).run Try.prog w = .ok (.string (strOfNums zs)) w := by
  subst h
  exact conv_row' hr cap

theorem right_at {w w' : World} {base c : Nat} {A : Option Addr} {ps : List Part} {S : Nat → Prop} (h : w.ownsRow base 64 3 (.slice A ps.length c) ps.length (chsC (rightC ps))) {k : Nat} (hk : k < ps.length) (hch : Ch S w w') (hS : ∀ g, (Value.slice A ps.length c).ownBlock = some g → ¬ S g) :
    ∃ ad : Addr, A = some ad ∧ w'.cell? (ad.add (k * 3)) = some (.int .u64 (sumZ ps[k].zs)) ∧ w'.cell? ⟨(ad.add (k * 3)).block, (ad.add (k * 3)).off + 1, none⟩ = some (.int .i64 ps[k].zs.length) ∧
      w'.cell? ⟨(ad.add (k * 3)).block, (ad.add (k * 3)).off + 2, none⟩ = some (.slice ps[k].A ps[k].zs.length ps[k].cap) := by
  obtain ⟨ad, e, _, q0, q1, q2⟩ := chs_at (own_row (own_ch h hch hS)) (k := k) (by rw [rightC_length]; exact hk)
  have hri : (rightC ps)[k]'(by rw [rightC_length]; exact hk) = ⟨idOf ps[k].zs, ps[k]⟩ := by simp [rightC]
  rw [hri] at q0 q1 q2
  exact ⟨ad, e, q0, q1, q2⟩
theorem OfP.snoc {ps : List Part} {l : List ChZ} (h : OfP ps l) {k : Nat} (hk : k < ps.length) : OfP ps (l ++ [⟨idOf ps[k].zs, ps[k]⟩]) := fun c hc => by
  rcases List.mem_append.1 hc with hc | hc
  · exact h c hc
  · rw [List.mem_singleton] at hc; subst hc; exact ⟨ps[k], List.getElem_mem hk, rfl⟩

end Go.Proofs.Ytpoiejgoongllaa
