/-
  A receiver that gets right packets alone (plain).
-/
import Derived.Test.YtpoiejgoongllaaKnown37
namespace Go.Proofs.Ytpoiejgoongllaa
section
set_option linter.unusedVariables false
set_option linter.unusedSimpArgs false
set_option linter.unnecessarySimpa false

/-- the bytes of the piece with an ID -/
def txt (ps : List Part) (x : IdZ) : List Int := (findC (rightC ps) x).getD []
theorem findC_right {ps : List Part} (hd : DistP ps) {p : Part} (hp : p ∈ ps) : findC (rightC ps) (idOf p.zs) = some p.zs := by
  unfold findC
  cases hf : (rightC ps).find? (fun c => decide (c.id = idOf p.zs)) with
  | none =>
    have h1 := List.find?_eq_none.1 hf ⟨idOf p.zs, p⟩ (by unfold rightC; exact List.mem_map.2 ⟨p, hp, rfl⟩)
    simp at h1
  | some c =>
    have h1 := List.find?_some hf
    have h2 := List.mem_of_find?_eq_some hf
    unfold rightC at h2
    obtain ⟨q, hq, rfl⟩ := List.mem_map.1 h2
    simp only [decide_eq_true_eq] at h1
    obtain ⟨i, hi, rfl⟩ := List.getElem_of_mem hp
    obtain ⟨j, hj, rfl⟩ := List.getElem_of_mem hq
    simp only [Option.map_some]
    rw [hd j i hj hi h1]
theorem txt_of {ps : List Part} (hd : DistP ps) {p : Part} (hp : p ∈ ps) : txt ps (idOf p.zs) = p.zs := by unfold txt; rw [findC_right hd hp]; rfl
theorem mem_idsOf {ps : List Part} {x : IdZ} (h : x ∈ idsOf ps) : ∃ p ∈ ps, idOf p.zs = x := by
  unfold idsOf at h
  obtain ⟨p, hp, e⟩ := List.mem_map.1 h
  exact ⟨p, hp, e⟩
theorem txt_id {ps : List Part} (hd : DistP ps) {x : IdZ} (h : x ∈ idsOf ps) : idOf (txt ps x) = x ∧ findC (rightC ps) x = some (txt ps x) ∧ ∃ p ∈ ps, txt ps x = p.zs := by
  obtain ⟨p, hp, rfl⟩ := mem_idsOf h
  rw [txt_of hd hp]
  exact ⟨rfl, findC_right hd hp, p, hp, rfl⟩
/-- it holds right bytes alone -/
structure Clean (ps : List Part) (r : Rcv) : Prop where
  ok : RcOk r
  ids : r.ids = idsOf ps
  comp : ∀ x zs, r.comp x = some zs → zs = txt ps x
theorem clean_recv {ps : List Part} (hd : DistP ps) {qs : List ChZ} (hq : ∀ q ∈ qs, q ∈ rightC ps) {n : Nat} (hc : chkM (n : Int) (idsOf ps) = 0) (hw : ∀ x ∈ idsOf ps, WfI x) (hb : ∀ p ∈ ps, Byt p.zs) : Clean ps (recvR n (idsOf ps) qs) where
  ok := recvR_ok hc hw (fun c h => by
    have h2 := hq c h
    unfold rightC at h2
    obtain ⟨p, hp, rfl⟩ := List.mem_map.1 h2
    exact hb p hp)
  ids := rfl
  comp := fun x zs hx => by
    simp only [recvR, compH] at hx
    split at hx
    · obtain ⟨h1, c, h2, h3, h4⟩ := haveC_ok hx
      have h5 := hq c h2
      unfold rightC at h5
      obtain ⟨p, hp, rfl⟩ := List.mem_map.1 h5
      simp only at h3 h4
      subst h3
      subst h4
      exact (txt_of hd hp).symm
    · cases hx
/-- a round of right answers: l is asked for, the first i of it are served; each prefix was j packets long -/
structure RndI (ps : List Part) (r : Rcv) (l : List IdZ) (i j : Nat) : Prop where
  clean : Clean ps r
  sub : ∀ x ∈ r.miss, x ∈ l
  lids : ∀ x ∈ l, x ∈ idsOf ps
  nodup : l.Nodup
  todo : ∀ k (h : k < l.length), i ≤ k → l[k] ∈ r.miss ∧ r.pref l[k] = (txt ps l[k]).take (1024 * j)
  done : ∀ k (h : k < l.length), k < i → l[k] ∈ r.miss → r.pref l[k] = (txt ps l[k]).take (1024 * (j + 1)) ∧ 1024 * (j + 1) < (txt ps l[k]).length
  long : ∀ x ∈ l, 1024 * j < (txt ps x).length
theorem nodup_ne {l : List IdZ} (hn : l.Nodup) {i k : Nat} (hi : i < l.length) (hk : k < l.length) (h : i ≠ k) : l[k] ≠ l[i] := by
  have hp := List.pairwise_iff_getElem.1 hn
  rcases Nat.lt_or_gt_of_ne h with h1 | h1
  · exact fun e => hp i k hi hk h1 e.symm
  · exact hp k i hk hi h1
/-- the answer is taken up, and not again -/
theorem RndI.step {ps : List Part} (hd : DistP ps) (hB : ∀ p ∈ ps, Byt p.zs) {r : Rcv} {l : List IdZ} {i j : Nat} (h : RndI ps r l i j) (hi : i < l.length) :
    (r.pref l[i]).length = 1024 * j ∧ l[i] ∈ r.miss ∧ (takeR r 2 l[i] ((1024 * j : Nat) : Int) (ansZ (1024 * j) (txt ps l[i]))).2 = true ∧ RndI ps (takeR r 2 l[i] ((1024 * j : Nat) : Int) (ansZ (1024 * j) (txt ps l[i]))).1 l (i + 1) j ∧
      takeR (takeR r 2 l[i] ((1024 * j : Nat) : Int) (ansZ (1024 * j) (txt ps l[i]))).1 2 l[i] ((1024 * j : Nat) : Int) (ansZ (1024 * j) (txt ps l[i])) = ((takeR r 2 l[i] ((1024 * j : Nat) : Int) (ansZ (1024 * j) (txt ps l[i]))).1, false) := by
  have hmem := List.getElem_mem hi
  obtain ⟨hm, hp⟩ := h.todo i hi (Nat.le_refl _)
  have hlong := h.long _ hmem
  obtain ⟨hid, _, p, hpp, htp⟩ := txt_id hd (h.lids _ hmem)
  have hx2 : (l[i]).2 = ((txt ps l[i]).length : Int) := by
    conv => lhs; rw [← hid]
    rfl
  have hpl : (r.pref l[i]).length = 1024 * j := by rw [hp, List.length_take]; omega
  have hal := ansZ_len (1024 * j) (txt ps l[i])
  have happ : r.pref l[i] ++ ansZ (1024 * j) (txt ps l[i]) = (txt ps l[i]).take (1024 * (j + 1)) := by rw [hp, take_ans, Nat.mul_add]
  have ht : takesP r 2 l[i] ((1024 * j : Nat) : Int) (ansZ (1024 * j) (txt ps l[i])) := ⟨rfl, by rw [hal]; omega, by rw [hal]; omega, hm, by rw [hpl], by rw [hpl, hal, hx2]; omega⟩
  have hbz : Byt (ansZ (1024 * j) (txt ps l[i])) := ansZ_byt (by rw [htp]; exact hB p hpp) _
  have hok := h.clean.ok.take 2 l[i] ((1024 * j : Nat) : Int) (ansZ (1024 * j) (txt ps l[i])) hbz
  have hne : ∀ k (hk : k < l.length), k ≠ i → l[k] ≠ l[i] := fun k hk hki => nodup_ne h.nodup hi hk (fun e => hki e.symm)
  refine ⟨hpl, hm, ?_⟩
  by_cases hmore : 1024 * (j + 1) < (txt ps l[i]).length
  · have hl1 : ((txt ps l[i]).take (1024 * (j + 1))).length = 1024 * (j + 1) := by rw [List.length_take]; omega
    have hT := takeR_more ht (by rw [happ, hl1, hx2]; omega)
    rw [happ] at hT
    rw [hT] at hok ⊢
    simp only at hok ⊢
    refine ⟨trivial, ⟨⟨hok, h.clean.ids, h.clean.comp⟩, h.sub, h.lids, h.nodup, fun k hk hik => ?_, fun k hk hik hkm => ?_, h.long⟩, takeR_bad ?_⟩
    · obtain ⟨q1, q2⟩ := h.todo k hk (by omega)
      refine ⟨q1, ?_⟩
      simp only [updF]
      rw [if_neg (hne k hk (by omega))]
      exact q2
    · simp only [updF]
      by_cases e : k = i
      · subst e
        rw [if_pos rfl]
        exact ⟨rfl, hmore⟩
      · rw [if_neg (hne k hk e)]
        exact h.done k hk (by omega) hkm
    · rintro ⟨_, _, _, _, t5, _⟩
      simp only [updF, if_true, hl1] at t5
      omega
  · have hwhole : (txt ps l[i]).take (1024 * (j + 1)) = txt ps l[i] := List.take_of_length_le (by omega)
    rw [hwhole] at happ
    have hT := takeR_done ht (by rw [happ, hx2]; omega) (by rw [happ]; exact hid)
    rw [happ] at hT
    rw [hT] at hok ⊢
    simp only at hok ⊢
    have hnm : ∀ y, y ∈ r.miss.erase l[i] ↔ y ≠ l[i] ∧ y ∈ r.miss := fun y => List.Nodup.mem_erase_iff h.clean.ok.nodup
    refine ⟨trivial, ⟨⟨hok, h.clean.ids, fun y ys hy => ?_⟩, fun y hy => h.sub y ((hnm y).1 hy).2, h.lids, h.nodup, fun k hk hik => ?_, fun k hk hik hkm => ?_, h.long⟩, takeR_bad ?_⟩
    · simp only [updF] at hy
      by_cases e : y = l[i]
      · rw [if_pos e] at hy; injection hy with hy; rw [e]; exact hy.symm
      · rw [if_neg e] at hy; exact h.clean.comp y ys hy
    · obtain ⟨q1, q2⟩ := h.todo k hk (by omega)
      have e := hne k hk (by omega)
      refine ⟨(hnm _).2 ⟨e, q1⟩, ?_⟩
      simp only [updF]
      rw [if_neg e]
      exact q2
    · obtain ⟨e, hkm2⟩ := (hnm _).1 hkm
      have hki : k ≠ i := fun h => e (by subst h; rfl)
      simp only [updF]
      rw [if_neg e]
      exact h.done k hk (by omega) hkm2
    · rintro ⟨_, _, _, t4, _, _⟩
      exact ((hnm _).1 t4).1 rfl
/-- the state between rounds: each prefix of the missing is j packets long -/
structure MidI (ps : List Part) (r : Rcv) (j : Nat) : Prop where
  clean : Clean ps r
  pref : ∀ x ∈ r.miss, r.pref x = (txt ps x).take (1024 * j) ∧ 1024 * j < (txt ps x).length
theorem MidI.start {ps : List Part} {r : Rcv} {j : Nat} (h : MidI ps r j) : RndI ps r r.miss 0 j :=
  ⟨h.clean, fun _ h => h, fun x hx => by rw [← h.clean.ids]; exact h.clean.ok.sub x hx, h.clean.ok.nodup, fun k hk _ => ⟨List.getElem_mem hk, (h.pref _ (List.getElem_mem hk)).1⟩, fun k hk h => by omega, fun x hx => (h.pref x hx).2⟩
theorem RndI.fin {ps : List Part} {r : Rcv} {l : List IdZ} {j : Nat} (h : RndI ps r l l.length j) : MidI ps r (j + 1) :=
  ⟨h.clean, fun x hx => by
    obtain ⟨k, hk, rfl⟩ := List.getElem_of_mem (h.sub x hx)
    exact h.done k hk hk hx⟩
theorem MidI.empty {ps : List Part} (hl : ∀ p ∈ ps, p.zs.length ≤ 2049) (hd : DistP ps) {r : Rcv} {j : Nat} (h : MidI ps r j) (hj : 3 ≤ j) : r.miss = [] := by
  cases hm : r.miss with
  | nil => rfl
  | cons x l =>
    have hx : x ∈ r.miss := by rw [hm]; exact List.mem_cons_self ..
    obtain ⟨_, _, p, hp, ht⟩ := txt_id hd (by rw [← h.clean.ids]; exact h.clean.ok.sub x hx)
    have h1 := (h.pref x hx).2
    rw [ht] at h1
    have := hl p hp
    omega
theorem MidI.zero {ps : List Part} (hd : DistP ps) (hl : ∀ p ∈ ps, 1 ≤ p.zs.length) {r : Rcv} (h : Clean ps r) (hp : ∀ x, r.pref x = []) : MidI ps r 0 :=
  ⟨h, fun x hx => by
    obtain ⟨_, _, p, hpp, ht⟩ := txt_id hd (by rw [← h.ids]; exact h.ok.sub x hx)
    rw [hp x, ht]
    have := hl p hpp
    exact ⟨by simp, by omega⟩⟩
theorem clean_done {ps : List Part} (hd : DistP ps) {r : Rcv} (h : Clean ps r) (hm : r.miss = []) : doneT r r.ids = flat ps := by
  have h1 : ∀ x ∈ idsOf ps, cmpB r x = txt ps x := fun x hx => by
    have hs := h.ok.some_ hm (by rw [h.ids]; exact hx)
    exact h.comp x _ hs
  rw [h.ids]
  unfold doneT flat idsOf
  rw [List.flatMap_map]
  have h2 : ∀ (l : List Part), (∀ p ∈ l, p ∈ ps) → l.flatMap (fun p => cmpB r (idOf p.zs)) = l.flatMap Part.zs := by
    intro l
    induction l with
    | nil => intro _; rfl
    | cons p l ih =>
      intro hl
      rw [List.flatMap_cons, List.flatMap_cons, ih (fun q hq => hl q (List.mem_cons_of_mem _ hq))]
      have hp := hl p (List.mem_cons_self ..)
      rw [h1 _ (by unfold idsOf; exact List.mem_map.2 ⟨p, hp, rfl⟩), txt_of hd hp]
  exact h2 ps (fun _ h => h)
end
end Go.Proofs.Ytpoiejgoongllaa
