/-
  Rounds with faults, and rounds without behind them (plain).
-/
import Derived.Test.YtpoiejgoongllaaTaint37
import Derived.Test.YtpoiejgoongllaaFaults37
import Derived.Test.YtpoiejgoongllaaSome37w
namespace Go.Proofs.Ytpoiejgoongllaa
section
set_option linter.unusedVariables false
set_option linter.unusedSimpArgs false
set_option linter.unnecessarySimpa false

/-- j packets, each near the right one -/
structure PrefT (T : List Int) (j : Nat) (z : List Int) : Prop where
  len : z.length = 1024 * j
  lt : 1024 * j < T.length
  near : ∀ i, i < j → Near 3 (ansZ (1024 * i) T) (ansZ (1024 * i) z)
structure Taint (ps : List Part) (r : Rcv) : Prop where
  clean : Clean ps r
  pref : ∀ x ∈ r.miss, ∃ j, PrefT (txt ps x) j (r.pref x)
/-- an answer with few bits flipped -/
structure DatT (ps : List Part) (p : PkZ) : Prop where
  kind : p.kind = 2
  id : p.id ∈ idsOf ps
  near : ∃ j : Nat, p.frm = ((1024 * j : Nat) : Int) ∧ 1024 * j < (txt ps p.id).length ∧ Near 3 (ansZ (1024 * j) (txt ps p.id)) p.zs
theorem PrefT.zero {T : List Int} (h : 1 ≤ T.length) : PrefT T 0 [] := ⟨rfl, by omega, fun i hi => by omega⟩
theorem ansZ_app_l {a b : List Int} {i j : Nat} (ha : a.length = 1024 * j) (hi : i < j) : ansZ (1024 * i) (a ++ b) = ansZ (1024 * i) a := by
  unfold ansZ
  rw [List.drop_append_of_le_length (by omega), List.take_append_of_le_length (by rw [List.length_drop]; omega)]
theorem ansZ_app_r {a b : List Int} {j : Nat} (ha : a.length = 1024 * j) (hb : b.length ≤ 1024) : ansZ (1024 * j) (a ++ b) = b := by
  unfold ansZ
  rw [← ha, List.drop_left, List.take_of_length_le hb]
theorem PrefT.app {T z s : List Int} {j : Nat} (h : PrefT T j z) (hs : Near 3 (ansZ (1024 * j) T) s) : ∀ i, i < j + 1 → Near 3 (ansZ (1024 * i) T) (ansZ (1024 * i) (z ++ s)) := fun i hi => by
  have hl := hs.len
  rw [ansZ_len] at hl
  rcases Nat.lt_or_ge i j with h1 | h1
  · rw [ansZ_app_l h.len h1]; exact h.near i h1
  · obtain rfl : i = j := by omega
    rw [ansZ_app_r h.len (by omega)]; exact hs
theorem PrefT.next {T z s : List Int} {j : Nat} (h : PrefT T j z) (hs : Near 3 (ansZ (1024 * j) T) s) (hl : (z ++ s).length < T.length) : PrefT T (j + 1) (z ++ s) := by
  have h1 := hs.len
  rw [ansZ_len] at h1
  have h2 := h.len
  rw [List.length_append] at hl
  refine ⟨by rw [List.length_append]; omega, by omega, h.app hs⟩
/-- whole, with the right fingerprint: the content -/
theorem PrefT.whole {T z s : List Int} {j : Nat} (hT : Byt T) (hz : Byt z) (hn : T.length ≤ 2045 ∨ T.length = 2049) (h : PrefT T j z) (hs : Near 3 (ansZ (1024 * j) T) s) (hl : ¬ (z ++ s).length < T.length) (he : sumZ (z ++ s) = sumZ T) : z ++ s = T := by
  have h1 := hs.len
  rw [ansZ_len] at h1
  have h2 := h.len
  have h3 := h.lt
  rw [List.length_append] at hl
  refine near_whole hT (fun a ha => (List.mem_append.1 ha).elim (hz a) (hs.byt a)) (by rw [List.length_append]; omega) hn (fun i hi => h.app hs i (by omega)) he
section
variable {ps : List Part} (hd : DistP ps) (hS : Pcs37 ps)
theorem srvO_byt {ps : List Part} (hS : Pcs37 ps) {k f : Int} {x : IdZ} {ys : List Int} (h : srvO (rightC ps) k x f = some ys) : Byt ys := by
  unfold srvO at h
  split at h
  · rw [findP_C] at h
    cases hf : findP (rightC ps) x with
    | none => rw [hf] at h; cases h
    | some b =>
      rw [hf] at h
      obtain ⟨c, hc', _, rfl⟩ := findP_mem hf
      simp only [Option.map_some, Option.bind_some] at h
      unfold ansO at h
      split at h
      · cases h
      · injection h with h
        subst h
        unfold rightC at hc'
        obtain ⟨p, hp, rfl⟩ := List.mem_map.1 hc'
        exact ansZ_byt (hS p hp).len.2.2 _
  · cases h
theorem pcs_len {zs : List Int} (h : PieceP zs) : zs.length ≤ 2045 ∨ zs.length = 2049 := by
  obtain ⟨n, a, b, hn, _, _, rfl⟩ := h
  rw [fillZ_length]
  simp only [szs37, List.mem_cons, List.not_mem_nil, or_false] at hn
  omega
include hd hS in
theorem txt_fact {x : IdZ} (hx : x ∈ idsOf ps) : x.2 = ((txt ps x).length : Int) ∧ idOf (txt ps x) = x ∧ Byt (txt ps x) ∧ 1 ≤ (txt ps x).length ∧ ((txt ps x).length ≤ 2045 ∨ (txt ps x).length = 2049) := by
  obtain ⟨hid, _, p, hp, ht⟩ := txt_id hd hx
  have hpp := hS p hp
  refine ⟨?_, hid, by rw [ht]; exact hpp.len.2.2, by rw [ht]; exact hpp.len.1, by rw [ht]; exact pcs_len hpp⟩
  conv => lhs; rw [← hid]
  rfl
include hd hS in
theorem Taint.take {r : Rcv} (h : Taint ps r) {p : PkZ} (hp : DatT ps p) : Taint ps (takeZ r p) := by
  obtain ⟨k, x, f, zs⟩ := p
  obtain ⟨hk, hx, j, hf, hj, hn⟩ := hp
  simp only at hk hx hf hj hn
  subst hk
  obtain ⟨hx2, hid, hB, hT1, hTl⟩ := txt_fact hd hS hx
  have hok := h.clean.ok.take 2 x f zs hn.byt
  unfold takeZ
  simp only
  by_cases ht : takesP r 2 x f zs
  · have ht' := ht
    obtain ⟨_, t1, t2, t3, t4, t5⟩ := ht
    obtain ⟨j', hP⟩ := h.pref x t3
    have hjj : j' = j := by have := hP.len; omega
    subst hjj
    have hzb : Byt (r.pref x) := by
      by_cases e : r.pref x = []
      · rw [e]; exact byt_nil
      · exact (h.clean.ok.pref x e).2.2
    by_cases hl : ((r.pref x ++ zs).length : Int) < x.2
    · have hT := takeR_more ht' hl
      rw [hT] at hok ⊢
      refine ⟨⟨hok, h.clean.ids, h.clean.comp⟩, fun y hy => ?_⟩
      simp only [updF]
      by_cases e : y = x
      · subst e; rw [if_pos rfl]; exact ⟨_, hP.next hn (by omega)⟩
      · rw [if_neg e]; exact h.pref y hy
    · by_cases hi : idOf (r.pref x ++ zs) = x
      · have hw : r.pref x ++ zs = txt ps x := hP.whole hB hzb hTl hn (by omega) (by
          have : idOf (r.pref x ++ zs) = idOf (txt ps x) := by rw [hi, hid]
          exact congrArg Prod.fst this)
        have hT := takeR_done ht' hl hi
        rw [hT] at hok ⊢
        refine ⟨⟨hok, h.clean.ids, fun y ys hy => ?_⟩, fun y hy => ?_⟩
        · simp only [updF] at hy
          by_cases e : y = x
          · rw [if_pos e] at hy; injection hy with hy; rw [e, ← hy]; exact hw
          · rw [if_neg e] at hy; exact h.clean.comp y ys hy
        · obtain ⟨e, hm⟩ := (List.Nodup.mem_erase_iff h.clean.ok.nodup).1 hy
          simp only [updF]
          rw [if_neg e]
          exact h.pref y hm
      · have hT := takeR_wrong ht' hl hi
        rw [hT] at hok ⊢
        refine ⟨⟨hok, h.clean.ids, h.clean.comp⟩, fun y hy => ?_⟩
        simp only [updF]
        by_cases e : y = x
        · subst e; rw [if_pos rfl]; exact ⟨0, PrefT.zero hT1⟩
        · rw [if_neg e]; exact h.pref y hy
  · rw [takeR_bad ht]; exact h
include hd hS in
theorem Taint.takeAll {r : Rcv} (h : Taint ps r) {l : List PkZ} (hl : ∀ p ∈ l, DatT ps p) : Taint ps (takeAllR r l) := by
  induction l generalizing r with
  | nil => exact h
  | cons p l ih => exact ih (h.take hd hS (hl p (List.mem_cons_self ..))) (fun q hq => hl q (List.mem_cons_of_mem _ hq))
/-- what a channel makes of packets -/
def NearAll (m : Nat) (l0 l : List PkZ) : Prop := ∀ y ∈ l, ∃ x ∈ l0, y.kind = x.kind ∧ y.id = x.id ∧ y.frm = x.frm ∧ Near m x.zs y.zs
theorem NearAll.strike {m : Nat} {l0 l : List PkZ} (h : NearAll m l0 l) {f : FtZ} (hf : FtD f) : NearAll (m + 1) l0 (strike l f) := fun y hy => by
  rcases strike_mem hy with hy | ⟨z, hz, b, _, hb, hbl, rfl⟩
  · obtain ⟨x, hx, a, b, c, d⟩ := h y hy
    exact ⟨x, hx, a, b, c, d.mono (by omega)⟩
  · obtain ⟨x, hx, a, b', c, d⟩ := h z hz
    obtain ⟨_, _, _, f4⟩ := hf
    exact ⟨x, hx, a, b', c, d.flip (by omega)⟩
theorem NearAll.carry {l0 : List PkZ} : ∀ {fs : List FtZ} {m : Nat} {l : List PkZ}, NearAll m l0 l → (∀ f ∈ fs, FtD f) → NearAll (m + fs.length) l0 (carryZ l fs)
  | [], m, l, h, _ => h
  | f :: fs, m, l, h, hf => by
    have h1 := NearAll.carry (fs := fs) (h.strike (hf f (List.mem_cons_self ..))) (fun g hg => hf g (List.mem_cons_of_mem _ hg))
    rw [List.length_cons, show m + (fs.length + 1) = m + 1 + fs.length by omega]
    exact h1
include hd hS in
theorem Taint.round {r : Rcv} (h : Taint ps r) {f1 f2 : List FtZ} (hf : ∀ f ∈ f2, FtD f) (hl : f2.length ≤ 3) : Taint ps (roundR (rightC ps) r f1 f2) := by
  unfold roundR
  refine h.takeAll hd hS fun p hp => ?_
  have h0 : NearAll 0 (answersZ (rightC ps) (carryZ (askZ r) f1)) (answersZ (rightC ps) (carryZ (askZ r) f1)) := fun y hy => ⟨y, hy, rfl, rfl, rfl, Near.refl (by
    unfold answersZ at hy
    obtain ⟨q, hq, he⟩ := List.mem_filterMap.1 hy
    obtain ⟨x, hx, _, _, e3, _⟩ := carryZ_len hq
    unfold askZ at hx
    obtain ⟨i, hi, rfl⟩ := List.mem_map.1 hx
    simp only at e3
    cases hs : srvO (rightC ps) q.kind q.id q.frm with
    | none => rw [hs] at he; cases he
    | some ys =>
      rw [hs] at he
      injection he with he
      subst he
      exact srvO_byt hS hs)⟩
  obtain ⟨x, hx, e1, e2, e3, e4⟩ := h0.carry hf p hp
  unfold answersZ at hx
  obtain ⟨q, hq, he⟩ := List.mem_filterMap.1 hx
  obtain ⟨a, ha, _, g2, g3, g4⟩ := carryZ_len hq
  unfold askZ at ha
  obtain ⟨i, hi, rfl⟩ := List.mem_map.1 ha
  simp only at g2 g3 g4
  have hii : i ∈ idsOf ps := by rw [← h.clean.ids]; exact h.clean.ok.sub i hi
  obtain ⟨j, hP⟩ := h.pref i hi
  have hs := srv_right hd hii hP.lt
  rw [g2, g3, g4, hP.len, hs] at he
  injection he with he
  subst he
  simp only at e1 e2 e3 e4
  refine ⟨e1, by rw [e2]; exact hii, j, by rw [e3], by rw [e2]; exact hP.lt, by rw [e2]; exact e4.mono (by omega)⟩
/-- what a receiver holds of one chunk -/
def Loc (r r' : Rcv) (x : IdZ) : Prop := r'.pref x = r.pref x ∧ (x ∈ r'.miss ↔ x ∈ r.miss)
theorem Loc.trans {r r1 r2 : Rcv} {x : IdZ} (h : Loc r r1 x) (k : Loc r1 r2 x) : Loc r r2 x := ⟨k.1.trans h.1, k.2.trans h.2⟩
theorem take_nodup {r : Rcv} (h : r.miss.Nodup) (p : PkZ) : (takeZ r p).miss.Nodup := by
  unfold takeZ takeR
  split
  · split
    · exact h
    · split
      · exact h.erase _
      · exact h
  · exact h
theorem take_loc {r : Rcv} {p : PkZ} {x : IdZ} (hne : x ≠ p.id) : Loc r (takeZ r p) x := by
  unfold takeZ takeR
  split
  · split
    · exact ⟨by simp only [updF]; rw [if_neg hne], Iff.rfl⟩
    · split
      · exact ⟨by simp only [updF]; rw [if_neg hne], List.mem_erase_of_ne hne⟩
      · exact ⟨by simp only [updF]; rw [if_neg hne], Iff.rfl⟩
  · exact ⟨rfl, Iff.rfl⟩
theorem take_cong {r r' : Rcv} {p : PkZ} (h : Loc r r' p.id) (hn : r.miss.Nodup) (hn' : r'.miss.Nodup) : Loc (takeZ r p) (takeZ r' p) p.id := by
  obtain ⟨h1, h2⟩ := h
  unfold takeZ takeR
  have ht : takesP r' p.kind p.id p.frm p.zs ↔ takesP r p.kind p.id p.frm p.zs := by unfold takesP; rw [h1, h2]
  by_cases t : takesP r p.kind p.id p.frm p.zs
  · rw [if_pos t, if_pos (ht.2 t), h1]
    split
    · exact ⟨by simp only [updF, if_true], h2⟩
    · split
      · exact ⟨by simp only [updF, if_true], by simp only [hn.mem_erase_iff, hn'.mem_erase_iff]; simp⟩
      · exact ⟨by simp only [updF, if_true], h2⟩
  · rw [if_neg t, if_neg (fun k => t (ht.1 k))]
    exact ⟨h1, h2⟩
theorem takeAll_out {d : IdZ → PkZ} (hd : ∀ x, (d x).id = x) : ∀ (l : List IdZ) (r : Rcv) {x : IdZ}, x ∉ l → Loc r (takeAllR r (l.map d)) x
  | [], r, x, _ => ⟨rfl, Iff.rfl⟩
  | y :: l, r, x, h => by
    have h1 : x ≠ (d y).id := by rw [hd]; exact fun e => h (e ▸ List.mem_cons_self ..)
    exact (take_loc h1).trans (takeAll_out hd l (takeZ r (d y)) (fun e => h (List.mem_cons_of_mem _ e)))
theorem takeAll_in {d : IdZ → PkZ} (hd : ∀ x, (d x).id = x) : ∀ (l : List IdZ) (r : Rcv) {x : IdZ}, l.Nodup → r.miss.Nodup → x ∈ l → Loc (takeZ r (d x)) (takeAllR r (l.map d)) x
  | y :: l, r, x, hl, hn, h => by
    obtain ⟨h1, h2⟩ := List.nodup_cons.1 hl
    rcases List.mem_cons.1 h with rfl | h
    · exact takeAll_out hd l (takeZ r (d x)) h1
    · have hne : x ≠ y := fun e => h1 (e ▸ h)
      have ih := takeAll_in hd l (takeZ r (d y)) h2 (take_nodup hn _) h
      have hc := take_cong (p := d x) (by rw [hd]; exact take_loc (by rw [hd]; exact hne)) hn (take_nodup hn (d y))
      rw [hd] at hc
      exact hc.trans ih
/-- how many rounds without faults are needed at most -/
def Bnd (ps : List Part) (r : Rcv) (K : Nat) : Prop := ∀ x ∈ r.miss, ∃ j, PrefT (txt ps x) j (r.pref x) ∧ ((r.pref x = (txt ps x).take (1024 * j) ∧ (txt ps x).length ≤ 1024 * (j + K)) ∨ 2 * (((txt ps x).length + 1023) / 1024) ≤ j + K)
theorem Bnd.empty {ps : List Part} {r : Rcv} (h : Bnd ps r 0) : r.miss = [] := by
  cases hm : r.miss with
  | nil => rfl
  | cons x l =>
    obtain ⟨j, hP, h1⟩ := h x (by rw [hm]; exact List.mem_cons_self ..)
    have := hP.lt
    rcases h1 with ⟨_, h1⟩ | h1 <;> omega
include hd hS in
theorem Bnd.round {r : Rcv} {K : Nat} (ht : Taint ps r) (h : Bnd ps r (K + 1)) : Bnd ps (roundR (rightC ps) r [] []) K := by
  have hids : ∀ x ∈ r.miss, x ∈ idsOf ps := fun x hx => by rw [← ht.clean.ids]; exact ht.clean.ok.sub x hx
  have e : roundR (rightC ps) r [] [] = takeAllR r (r.miss.map fun x => ⟨2, x, ((r.pref x).length : Int), ansZ (r.pref x).length (txt ps x)⟩) := by
    unfold roundR askZ
    rw [carryZ_nil, carryZ_nil]
    congr 1
    refine answersZ_map _ _ _ _ fun x hx => ?_
    obtain ⟨j, hP⟩ := ht.pref x hx
    simp only
    rw [hP.len, srv_right hd (hids x hx) hP.lt]
    rfl
  rw [e]
  intro x hx
  have hxm : x ∈ r.miss := by
    apply Classical.byContradiction
    intro hn
    exact hn ((takeAll_out (d := fun x => ⟨2, x, ((r.pref x).length : Int), ansZ (r.pref x).length (txt ps x)⟩) (fun _ => rfl) r.miss r hn).2.1 hx)
  obtain ⟨l1, l2⟩ := takeAll_in (d := fun x => ⟨2, x, ((r.pref x).length : Int), ansZ (r.pref x).length (txt ps x)⟩) (fun _ => rfl) r.miss r ht.clean.ok.nodup ht.clean.ok.nodup hxm
  rw [l1]
  have hx2 := l2.1 hx
  clear l1 l2 hx e
  obtain ⟨hxs, hid, hB, hT1, hTl⟩ := txt_fact hd hS (hids x hxm)
  obtain ⟨j, hP, hb⟩ := h x hxm
  have hj := hP.lt
  have hal := ansZ_len (1024 * j) (txt ps x)
  have hpl := hP.len
  have ht' : takesP r 2 x ((r.pref x).length : Int) (ansZ (r.pref x).length (txt ps x)) := ⟨rfl, by rw [hpl, hal]; omega, by rw [hpl, hal]; omega, hxm, rfl, by rw [hpl, hal, hxs]; omega⟩
  have hnear : Near 3 (ansZ (1024 * j) (txt ps x)) (ansZ (1024 * j) (txt ps x)) := (Near.refl (ansZ_byt hB _)).mono (by omega)
  unfold takeZ at hx2 ⊢
  simp only at hx2 ⊢
  rw [hpl] at ht' hx2 ⊢
  by_cases hl : ((r.pref x ++ ansZ (1024 * j) (txt ps x)).length : Int) < x.2
  · have hT := takeR_more ht' hl
    rw [hT]
    simp only [updF, if_true]
    refine ⟨j + 1, hP.next hnear (by omega), ?_⟩
    rcases hb with ⟨b1, b2⟩ | b1
    · left
      refine ⟨?_, by omega⟩
      conv => lhs; rw [b1]
      rw [take_ans, Nat.mul_add]
    · right; omega
  · have hfull : (txt ps x).length ≤ 1024 * (j + 1) := by rw [List.length_append, hpl, hal] at hl; omega
    by_cases hi : idOf (r.pref x ++ ansZ (1024 * j) (txt ps x)) = x
    · have hT := takeR_done ht' hl hi
      rw [hT] at hx2
      exact absurd ((List.Nodup.mem_erase_iff ht.clean.ok.nodup).1 hx2).1 (by simp)
    · have hT := takeR_wrong ht' hl hi
      rw [hT]
      simp only [updF, if_true]
      refine ⟨0, PrefT.zero hT1, .inl ⟨rfl, ?_⟩⟩
      rcases hb with ⟨b1, b2⟩ | b1
      · exfalso
        apply hi
        rw [b1, take_ans, List.take_of_length_le (by omega)]
        exact hid
      · omega
theorem ofF_far {fs : List (List FtZ)} {k : Nat} (h : fs.length ≤ k) : ofF fs k = [] := by
  unfold ofF; rw [List.getD_eq_getElem?_getD, List.getElem?_eq_none h]; rfl
include hd hS in
theorem taint_at {fs : List (List FtZ)} (hf : ∀ l ∈ fs, l.length ≤ 3 ∧ ∀ f ∈ l, FtD f) {r0 : Rcv} (h : Taint ps r0) : ∀ n, Taint ps (rcvAt (rightC ps) fs r0 n)
  | 0 => h
  | n + 1 => by
    have h1 := taint_at hf h n
    have h2 : (ofF fs (2 * n + 1)).length ≤ 3 ∧ ∀ f ∈ ofF fs (2 * n + 1), FtD f := ofF_mem (Q := fun l => l.length ≤ 3 ∧ ∀ f ∈ l, FtD f) ⟨by simp, fun f hf => by cases hf⟩ hf
    exact h1.round hd hS h2.2 h2.1
include hd hS in
theorem bnd_at {fs : List (List FtZ)} (hf : ∀ l ∈ fs, l.length ≤ 3 ∧ ∀ f ∈ l, FtD f) {r0 : Rcv} (h : Taint ps r0) {bad L : Nat} (hb : fs.length ≤ 2 * bad) (hL : ∀ p ∈ ps, (p.zs.length + 1023) / 1024 ≤ L) : ∀ i, i ≤ 2 * L → Bnd ps (rcvAt (rightC ps) fs r0 (bad + i)) (2 * L - i)
  | 0, _ => fun x hx => by
    have ht := taint_at hd hS hf h bad
    obtain ⟨j, hP⟩ := ht.pref x hx
    obtain ⟨_, _, p, hp, hpt⟩ := txt_id hd (by rw [← ht.clean.ids]; exact ht.clean.ok.sub x hx)
    have := hL p hp
    exact ⟨j, hP, .inr (by rw [hpt]; omega)⟩
  | i + 1, hi => by
    have h1 := bnd_at hf h hb hL i (by omega)
    have ht := taint_at hd hS hf h (bad + i)
    rw [show 2 * L - i = (2 * L - (i + 1)) + 1 by omega] at h1
    have e : rcvAt (rightC ps) fs r0 (bad + (i + 1)) = roundR (rightC ps) (rcvAt (rightC ps) fs r0 (bad + i)) [] [] := by
      show roundR _ _ (ofF fs (2 * (bad + i))) (ofF fs (2 * (bad + i) + 1)) = _
      rw [ofF_far (by omega), ofF_far (by omega)]
      rfl
    rw [e]
    exact h1.round hd hS ht
/-- some right and some wrong chunks at the beginning -/
theorem wrong_right {qs : List ChZ} (hq : ∀ q ∈ qs, q ∈ rightC ps ∨ WrongC (rightC ps) q) {q : ChZ} (h : q ∈ qs) (hS : Pcs37 ps) (hi : idOf q.p.zs = q.id) : ∃ p ∈ ps, q.id = idOf p.zs ∧ q.p.zs = p.zs := by
  rcases hq q h with h1 | ⟨c, hc, b, hb, h2, h3⟩
  · unfold rightC at h1
    obtain ⟨p, hp, rfl⟩ := List.mem_map.1 h1
    exact ⟨p, hp, rfl, rfl⟩
  · unfold rightC at hc
    obtain ⟨p, hp, rfl⟩ := List.mem_map.1 hc
    simp only at h2 h3
    refine ⟨p, hp, h2, ?_⟩
    obtain ⟨hl1, _, hB⟩ := (hS p hp).len
    rw [h2] at hi
    have hs : sumZ q.p.zs = sumZ p.zs := congrArg Prod.fst hi
    rw [h3] at hs ⊢
    cases hz : p.zs with
    | nil => rw [hz] at hl1; simp at hl1
    | cons z l =>
      rw [hz] at hs hB
      have hzb := hB z (List.mem_cons_self ..)
      have := (sumZ_byte [] l (b : Int) z (by omega) hzb).1 hs
      rw [this]
      rfl
include hd hS in
theorem taint_recv {qs : List ChZ} (hq : ∀ q ∈ qs, q ∈ rightC ps ∨ WrongC (rightC ps) q) (hqB : ∀ q ∈ qs, Byt q.p.zs) {n : Nat} (hc : chkM (n : Int) (idsOf ps) = 0) : Taint ps (recvR n (idsOf ps) qs) := by
  refine ⟨⟨recvR_ok hc (pcs_wf hS) hqB, rfl, fun x zs hx => ?_⟩, fun x hx => ⟨0, ?_⟩⟩
  · simp only [recvR, compH] at hx
    split at hx
    · obtain ⟨h1, c, h2, h3, h4⟩ := haveC_ok hx
      subst h3
      subst h4
      obtain ⟨p, hp, e1, e2⟩ := wrong_right hq h2 hS h1
      rw [e1, e2]
      exact (txt_of hd hp).symm
    · cases hx
  · have hx' : x ∈ idsOf ps := (recvR_ok hc (pcs_wf hS) hqB).sub x hx
    exact PrefT.zero (txt_fact hd hS hx').2.2.2.1
include hd hS in
/-- whatever faults some rounds have -/
theorem surv_end {qs : List ChZ} (hq : ∀ q ∈ qs, q ∈ rightC ps ∨ WrongC (rightC ps) q) (hqB : ∀ q ∈ qs, Byt q.p.zs) {n0 : Nat} (hc : chkM (n0 : Int) (idsOf ps) = 0) {fs : List (List FtZ)} (hf : ∀ l ∈ fs, l.length ≤ 3 ∧ ∀ f ∈ l, FtD f) {bad L : Nat} (hb : fs.length ≤ 2 * bad) (hL : ∀ p ∈ ps, (p.zs.length + 1023) / 1024 ≤ L)
    (hb2 : bad + 2 * L ≤ 1000) {n : Nat} (hn : Rounds (rightC ps) fs (recvR n0 (idsOf ps) qs) ((bad + 2 * L : Nat) : Int) n) : (rcvAt (rightC ps) fs (recvR n0 (idsOf ps) qs) n).miss = [] ∧ n ≤ bad + 2 * L ∧ Clean ps (rcvAt (rightC ps) fs (recvR n0 (idsOf ps) qs) n) := by
  have ht := taint_recv hd hS hq hqB hc
  have hB := bnd_at hd hS hf ht hb hL (2 * L) (Nat.le_refl _)
  rw [Nat.sub_self] at hB
  have he := hB.empty
  obtain ⟨h1, h2, h3⟩ := hn
  have hle : n ≤ bad + 2 * L := by
    rcases Nat.lt_or_ge (bad + 2 * L) n with hlt | hge
    · exact absurd he (h2 _ hlt).1
    · exact hge
  have hm : (rcvAt (rightC ps) fs (recvR n0 (idsOf ps) qs) n).miss = [] := by
    rcases h3 with h3 | h3 | h3
    · exact h3
    · obtain rfl : n = bad + 2 * L := by omega
      exact he
    · omega
  exact ⟨hm, hle, (taint_at hd hS hf ht n).clean⟩
end
end
end Go.Proofs.Ytpoiejgoongllaa
