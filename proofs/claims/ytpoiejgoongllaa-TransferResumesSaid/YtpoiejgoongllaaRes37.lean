/-
  A receiver that takes some right packets; another one that goes on from its chunks (plain).
-/
import Derived.Test.YtpoiejgoongllaaIdsOf37
import Derived.Test.YtpoiejgoongllaaChunks37
namespace Go.Proofs.Ytpoiejgoongllaa
section
set_option linter.unusedVariables false
set_option linter.unusedSimpArgs false
set_option linter.unnecessarySimpa false

/-- each prefix is of the right bytes -/
structure PreI (ps : List Part) (r : Rcv) : Prop where
  clean : Clean ps r
  pref : ∀ x ∈ r.miss, r.pref x = (txt ps x).take (r.pref x).length ∧ (r.pref x).length < (txt ps x).length
theorem PreI.take {ps : List Part} (hd : DistP ps) (hB : ∀ p ∈ ps, Byt p.zs) {r : Rcv} (h : PreI ps r) {x : IdZ} (hx : x ∈ r.miss) :
    PreI ps (takeR r 2 x ((r.pref x).length : Int) (ansZ (r.pref x).length (txt ps x))).1 ∧
    (∀ y, y ≠ x → (takeR r 2 x ((r.pref x).length : Int) (ansZ (r.pref x).length (txt ps x))).1.pref y = r.pref y) ∧
    ((takeR r 2 x ((r.pref x).length : Int) (ansZ (r.pref x).length (txt ps x))).1.miss = r.miss ∧ (takeR r 2 x ((r.pref x).length : Int) (ansZ (r.pref x).length (txt ps x))).1.recv = r.recv ∨
      (takeR r 2 x ((r.pref x).length : Int) (ansZ (r.pref x).length (txt ps x))).1.miss = r.miss.erase x ∧ (takeR r 2 x ((r.pref x).length : Int) (ansZ (r.pref x).length (txt ps x))).1.recv = r.recv ++ [x]) := by
  obtain ⟨hp, hlt⟩ := h.pref x hx
  have hxi : x ∈ idsOf ps := by rw [← h.clean.ids]; exact h.clean.ok.sub x hx
  obtain ⟨hid, _, p, hpp, htp⟩ := txt_id hd hxi
  have hx2 : x.2 = ((txt ps x).length : Int) := by
    conv => lhs; rw [← hid]
    rfl
  have hN : ∃ n, (r.pref x).length = n := ⟨_, rfl⟩
  obtain ⟨n, hn⟩ := hN
  rw [hn] at hp hlt ⊢
  have hal := ansZ_len n (txt ps x)
  have happ : r.pref x ++ ansZ n (txt ps x) = (txt ps x).take (n + 1024) := by rw [hp, take_ans]
  have ht : takesP r 2 x (n : Int) (ansZ n (txt ps x)) := ⟨rfl, by rw [hal]; omega, by rw [hal]; omega, hx, by rw [hn], by rw [hn, hal, hx2]; omega⟩
  have hbz : Byt (ansZ n (txt ps x)) := ansZ_byt (by rw [htp]; exact hB p hpp) _
  have hok := h.clean.ok.take 2 x (n : Int) (ansZ n (txt ps x)) hbz
  by_cases hmore : n + 1024 < (txt ps x).length
  · have hl1 : ((txt ps x).take (n + 1024)).length = n + 1024 := by rw [List.length_take]; omega
    have hT := takeR_more ht (by rw [happ, hl1, hx2]; omega)
    rw [happ] at hT
    rw [hT] at hok ⊢
    simp only at hok ⊢
    refine ⟨⟨⟨hok, h.clean.ids, h.clean.comp⟩, fun y hy => ?_⟩, fun y hy => ?_, .inl ⟨trivial, trivial⟩⟩
    · simp only [updF]
      by_cases e : y = x
      · subst e
        rw [if_pos rfl, hl1]
        exact ⟨rfl, hmore⟩
      · rw [if_neg e]
        exact h.pref y hy
    · simp only [updF]; rw [if_neg hy]
  · have hwhole : (txt ps x).take (n + 1024) = txt ps x := List.take_of_length_le (by omega)
    rw [hwhole] at happ
    have hT := takeR_done ht (by rw [happ, hx2]; omega) (by rw [happ]; exact hid)
    rw [happ] at hT
    rw [hT] at hok ⊢
    simp only at hok ⊢
    have hnm : ∀ y, y ∈ r.miss.erase x ↔ y ≠ x ∧ y ∈ r.miss := fun y => List.Nodup.mem_erase_iff h.clean.ok.nodup
    refine ⟨⟨⟨hok, h.clean.ids, fun y ys hy => ?_⟩, fun y hy => ?_⟩, fun y hy => ?_, .inr ⟨trivial, trivial⟩⟩
    · simp only [updF] at hy
      by_cases e : y = x
      · rw [if_pos e] at hy; injection hy with hy; rw [e]; exact hy.symm
      · rw [if_neg e] at hy; exact h.clean.comp y ys hy
    · obtain ⟨e, hy2⟩ := (hnm y).1 hy
      simp only [updF]
      rw [if_neg e]
      exact h.pref y hy2
    · simp only [updF]; rw [if_neg hy]
/-- the state of a receiver that began with the chunks qs -/
structure ResI (ps : List Part) (qs : List ChZ) (r : Rcv) : Prop where
  pre : PreI ps r
  miss : r.miss = (lackH qs (missL [] (idsOf ps))).filter (fun x => !decide (x ∈ r.recv))
  sub : ∀ x ∈ r.recv, x ∈ lackH qs (missL [] (idsOf ps))
theorem ResI.recvIn {ps : List Part} {qs : List ChZ} {r : Rcv} (h : ResI ps qs r) : RecvIn r := fun x hx => by
  have h1 := h.sub x hx
  unfold lackH at h1
  have h2 := (List.mem_filter.1 h1).1
  rw [mem_missL2] at h2
  rw [h.pre.clean.ids]
  exact h2.1
theorem lackH_nodup (qs : List ChZ) (ids : List IdZ) : (lackH qs (missL [] ids)).Nodup := (nodup_missL ids).filter _
theorem ResI.take {ps : List Part} (hd : DistP ps) (hB : ∀ p ∈ ps, Byt p.zs) {qs : List ChZ} {r : Rcv} (h : ResI ps qs r) {x : IdZ} (hx : x ∈ r.miss) : ResI ps qs (takeR r 2 x ((r.pref x).length : Int) (ansZ (r.pref x).length (txt ps x))).1 := by
  obtain ⟨h1, _, h2⟩ := h.pre.take hd hB hx
  refine ⟨h1, ?_, fun y hy => ?_⟩
  · rcases h2 with ⟨a, b⟩ | ⟨a, b⟩
    · rw [a, b]; exact h.miss
    · rw [a, b, List.Nodup.erase_eq_filter h.pre.clean.ok.nodup]
      conv => lhs; rw [h.miss]
      rw [List.filter_filter]
      refine List.filter_congr fun y hy => ?_
      simp only [List.mem_append, List.mem_singleton]
      by_cases e : y = x <;> by_cases e2 : y ∈ r.recv <;> simp [e, e2]
  · rcases h2 with ⟨a, b⟩ | ⟨a, b⟩
    · rw [b] at hy; exact h.sub y hy
    · rw [b] at hy
      rcases List.mem_append.1 hy with hy | hy
      · exact h.sub y hy
      · rw [List.mem_singleton] at hy
        subst hy
        rw [h.miss] at hx
        exact (List.mem_filter.1 hx).1
theorem ResI.zero {ps : List Part} (hd : DistP ps) (hl : ∀ p ∈ ps, 1 ≤ p.zs.length) {n : Nat} {qs : List ChZ} (h : Clean ps (recvR n (idsOf ps) qs)) : ResI ps qs (recvR n (idsOf ps) qs) := by
  refine ⟨⟨h, fun x hx => ?_⟩, ?_, fun x hx => by cases hx⟩
  · obtain ⟨_, _, p, hpp, ht⟩ := txt_id hd (by rw [← h.ids]; exact h.ok.sub x hx)
    have := hl p hpp
    refine ⟨rfl, ?_⟩
    show 0 < _
    rw [ht]; omega
  · show lackH qs (missL [] (idsOf ps)) = _
    rw [List.filter_eq_self.2]
    intro x hx
    show (!decide (x ∈ ([] : List IdZ))) = true
    simp
/-- chunks with right bytes -/
def RightZ (ps : List Part) (qs : List ChZ) : Prop := ∀ q ∈ qs, ∃ p ∈ ps, q.id = idOf p.zs ∧ q.p.zs = p.zs
theorem rightZ_of {ps : List Part} {qs : List ChZ} (h : ∀ q ∈ qs, q ∈ rightC ps) : RightZ ps qs := fun q hq => by
  have h2 := h q hq
  unfold rightC at h2
  obtain ⟨p, hp, rfl⟩ := List.mem_map.1 h2
  exact ⟨p, hp, rfl, rfl⟩
theorem RightZ.app {ps : List Part} {qs gs : List ChZ} (h : RightZ ps qs) (k : RightZ ps gs) : RightZ ps (qs ++ gs) := fun q hq => (List.mem_append.1 hq).elim (h q) (k q)
theorem clean_recvZ {ps : List Part} (hd : DistP ps) {qs : List ChZ} (hq : RightZ ps qs) {n : Nat} (hc : chkM (n : Int) (idsOf ps) = 0) (hw : ∀ x ∈ idsOf ps, WfI x) (hb : ∀ p ∈ ps, Byt p.zs) : Clean ps (recvR n (idsOf ps) qs) where
  ok := recvR_ok hc hw (fun c h => by
    obtain ⟨p, hp, _, e⟩ := hq c h
    rw [e]; exact hb p hp)
  ids := rfl
  comp := fun x zs hx => by
    simp only [recvR, compH] at hx
    split at hx
    · obtain ⟨h1, c, h2, h3, h4⟩ := haveC_ok hx
      obtain ⟨p, hp, e1, e2⟩ := hq c h2
      rw [← h4, e2, ← h3, e1]
      exact (txt_of hd hp).symm
    · cases hx
theorem got_right {ps : List Part} (hd : DistP ps) {qs gs : List ChZ} {r : Rcv} (h : ResI ps qs r) (hg : gs.map ChZ.z = gotZ r) : RightZ ps gs ∧ (∀ q ∈ gs, idOf q.p.zs = q.id ∧ q.id ∈ lackH qs (missL [] (idsOf ps))) ∧ (∀ x, x ∈ r.recv ↔ (haveC gs x).isSome = true) := by
  have hm : ∀ q ∈ gs, q.id ∈ r.recv ∧ q.p.zs = cmpB r q.id := fun q hq => by
    have h1 : q.z ∈ gs.map ChZ.z := List.mem_map_of_mem hq
    rw [hg] at h1
    unfold gotZ at h1
    obtain ⟨x, hx, e⟩ := List.mem_map.1 h1
    have e1 : x = q.id := congrArg Prod.fst e
    have e2 : cmpB r x = q.p.zs := congrArg Prod.snd e
    subst e1
    exact ⟨hx, e2.symm⟩
  have hc : ∀ x ∈ r.recv, cmpB r x = txt ps x ∧ idOf (cmpB r x) = x := fun x hx => by
    cases hcx : r.comp x with
    | none => exact absurd hcx (h.pre.clean.ok.got x hx)
    | some zs =>
      have e : cmpB r x = zs := by unfold cmpB; rw [hcx]; rfl
      rw [e]
      exact ⟨h.pre.clean.comp x zs hcx, (h.pre.clean.ok.comp x zs hcx).1⟩
  refine ⟨fun q hq => ?_, fun q hq => ?_, fun x => ?_⟩
  · obtain ⟨h1, h2⟩ := hm q hq
    have hi : q.id ∈ idsOf ps := by rw [← h.pre.clean.ids]; exact h.recvIn _ h1
    obtain ⟨e1, _, p, hp, e2⟩ := txt_id hd hi
    refine ⟨p, hp, ?_, by rw [h2, (hc _ h1).1, e2]⟩
    rw [← e2, e1]
  · obtain ⟨h1, h2⟩ := hm q hq
    exact ⟨by rw [h2]; exact (hc _ h1).2, h.sub _ h1⟩
  · constructor
    · intro hx
      have h1 : (x, cmpB r x) ∈ gotZ r := by unfold gotZ; exact List.mem_map.2 ⟨x, hx, rfl⟩
      rw [← hg] at h1
      obtain ⟨q, hq, e⟩ := List.mem_map.1 h1
      have e1 : q.id = x := congrArg Prod.fst e
      have e2 : q.p.zs = cmpB r x := congrArg Prod.snd e
      unfold haveC
      rw [Option.isSome_map, List.find?_isSome]
      exact ⟨q, hq, by simp [e1, e2, (hc x hx).2]⟩
    · intro hs
      cases hh : haveC gs x with
      | none => rw [hh] at hs; cases hs
      | some zs =>
        obtain ⟨_, c, hc', he, _⟩ := haveC_ok hh
        rw [← he]
        exact (hm c hc').1
/-- it misses exactly what the other one misses -/
theorem resumes_miss {ps : List Part} (hd : DistP ps) {qs gs : List ChZ} {r : Rcv} (h : ResI ps qs r) (hg : gs.map ChZ.z = gotZ r) (n : Nat) : (recvR n (idsOf ps) (qs ++ gs)).miss = r.miss := by
  obtain ⟨_, _, h3⟩ := got_right hd h hg
  rw [h.miss]
  show lackH (qs ++ gs) (missL [] (idsOf ps)) = _
  unfold lackH
  rw [List.filter_filter]
  refine List.filter_congr fun x hx => ?_
  have e : haveC (qs ++ gs) x = (haveC qs x).or (haveC gs x) := by
    unfold haveC
    rw [List.find?_append]
    cases qs.find? (fun c => decide (c.id = x ∧ idOf c.p.zs = x)) <;> rfl
  rw [e]
  have h4 := h3 x
  by_cases hr : x ∈ r.recv
  · have h5 := h4.1 hr
    cases haveC qs x <;> cases hgx : haveC gs x <;> simp_all
  · have h5 : haveC gs x = none := by
      cases hgx : haveC gs x with
      | none => rfl
      | some zs => exact absurd (h4.2 (by rw [hgx]; rfl)) hr
    rw [h5]
    cases haveC qs x <;> simp [hr]
/-- the last run -/
theorem resumes_run {ps : List Part} (hd : DistP ps) (hB : ∀ p ∈ ps, Byt p.zs) (hlen : ∀ p ∈ ps, 1 ≤ p.zs.length ∧ p.zs.length ≤ 2049) {qs : List ChZ} (hq : RightZ ps qs) {n : Nat} (hc : chkM (n : Int) (idsOf ps) = 0) (hw : ∀ x ∈ idsOf ps, WfI x) {rounds : Int} (hr : 3 ≤ rounds) {k : Nat} (hk : Rounds (rightC ps) [] (recvR n (idsOf ps) qs) rounds k) :
    (rcvAt (rightC ps) [] (recvR n (idsOf ps) qs) k).miss = [] ∧ runZ (rcvAt (rightC ps) [] (recvR n (idsOf ps) qs) k) = flat ps := by
  have hM := MidI.zero hd (fun p hp => (hlen p hp).1) (clean_recvZ hd hq hc hw hB) (fun x => rfl)
  obtain ⟨h1, h2, _⟩ := ends_enough hd hB (fun p hp => (hlen p hp).2) hM (left := (recvR n (idsOf ps) qs).miss) (fun x => Iff.rfl) hr hk
  refine ⟨h2, ?_⟩
  unfold runZ
  rw [if_pos h2]
  exact clean_done hd (ends_at hd hB hM k).1.clean h2
end
end Go.Proofs.Ytpoiejgoongllaa
