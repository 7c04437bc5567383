/-
  What the laws over pieces share (chapter 37).
-/
import Derived.Test.YtpoiejgoongllaaClean37
import Derived.Test.YtpoiejgoongllaaDist25
namespace Go.Proofs.Ytpoiejgoongllaa
set_option linter.unusedVariables false
set_option linter.unusedSimpArgs false
set_option linter.unnecessarySimpa false
open Go.RowKit

theorem pcs_pm {ps : List Part} (h : Pcs37 ps) : ∀ p ∈ ps, Byt p.zs ∧ p.zs.length ≤ 1048576 := fun p hp => ⟨(h p hp).len.2.2, by have := (h p hp).len.2.1; omega⟩
theorem pcs_tot : ∀ {ps : List Part}, Pcs37 ps → totP ps ≤ 2049 * ps.length
  | [], _ => by simp [totP]
  | p :: ps, h => by
    have h1 := pcs_tot (ps := ps) (fun q hq => h q (List.mem_cons_of_mem _ hq))
    have h2 := (h p (List.mem_cons_self ..)).len.2.1
    unfold totP at h1 ⊢
    simp only [List.map_cons, List.sum_cons, List.length_cons]
    omega
theorem pcs_ok {ps : List Part} (hS : Pcs37 ps) : (idsOf ps).all okId = true := by
  rw [List.all_eq_true]
  intro x hx
  obtain ⟨p, hp, rfl⟩ := List.mem_map.1 hx
  obtain ⟨h1, h2, _⟩ := (hS p hp).len
  exact idOf_ok h1 (by omega)
theorem pcs_chk {ps : List Part} (hS : Pcs37 ps) (hn : ps.length ≤ 500) : chkM ((totP ps : Nat) : Int) (idsOf ps) = 0 := by
  have h := pcs_tot hS
  have := (chkM_ok (by rw [idsOf_length]; omega) (pcs_ok hS) rfl (by rw [totP_of]; omega)).symm
  rwa [totP_of] at this
theorem pcs_wf {ps : List Part} (hS : Pcs37 ps) : ∀ x ∈ idsOf ps, WfI x := fun x hx => by
  obtain ⟨p, hp, rfl⟩ := List.mem_map.1 hx
  exact idOf_wf (by have := (hS p hp).len.2.1; omega)
theorem askL_all {r : Rcv} {most : Int} (h : (r.miss.length : Int) ≤ most) : askL r most = r.miss := by
  unfold askL askN
  exact List.take_of_length_le (by omega)
/-- chunks out of the right ones -/
theorem right_in {w : World} {base : Nat} {ps : List Part} (hTx : Txs w base ps) (hc : Caps ps) (hS : Pcs37 ps) {qs : List ChZ} (hq : ∀ q ∈ qs, q ∈ rightC ps) : ChsIn w qs ∧ ∀ q ∈ qs, WfI q.id ∧ Byt q.p.zs := by
  have h : ∀ q ∈ qs, ∃ p ∈ ps, q = ⟨idOf p.zs, p⟩ := fun q h => by
    have h2 := hq q h
    unfold rightC at h2
    obtain ⟨p, hp, rfl⟩ := List.mem_map.1 h2
    exact ⟨p, hp, rfl⟩
  refine ⟨fun q hq => ?_, fun q hq => ?_⟩
  · obtain ⟨p, hp, rfl⟩ := h q hq
    exact ⟨(hTx p hp).row, hc p hp, by have := (hS p hp).len.2.1; show p.zs.length ≤ _; omega⟩
  · obtain ⟨p, hp, rfl⟩ := h q hq
    exact ⟨pcs_wf hS _ (by unfold idsOf; exact List.mem_map.2 ⟨p, hp, rfl⟩), (hS p hp).len.2.2⟩
theorem pksC_get (l : List Pk) : ∀ (k : Nat) (h : k < l.length), (pksC l)[k * 5]? = some (.int .i64 l[k].kind) ∧ (pksC l)[k * 5 + 1]? = some (.int .u64 l[k].id.1) ∧ (pksC l)[k * 5 + 2]? = some (.int .i64 l[k].id.2) ∧ (pksC l)[k * 5 + 3]? = some (.int .i64 l[k].frm) ∧ (pksC l)[k * 5 + 4]? = some l[k].p.v := by
  induction l with
  | nil => intro k h; simp at h
  | cons x l ih =>
    intro k h
    cases k with
    | zero => exact ⟨rfl, rfl, rfl, rfl, rfl⟩
    | succ k =>
      have e : pksC (x :: l) = pkC x ++ pksC l := rfl
      have hl : (pkC x).length = 5 := rfl
      obtain ⟨a, b, c, d, f⟩ := ih k (by simpa using h)
      rw [e]
      have q : ∀ j, (pkC x ++ pksC l)[(k + 1) * 5 + j]? = (pksC l)[k * 5 + j]? := fun j => by
        rw [List.getElem?_append_right (by omega), hl]
        congr 1
        omega
      exact ⟨(q 0).trans a, (q 1).trans b, (q 2).trans c, (q 3).trans d, (q 4).trans f⟩
theorem pks_at {w : World} {B : Nat} {A : Option Addr} {l : List Pk} (hr : Row w B A (pksC l)) {k : Nat} (h : k < l.length) :
    ∃ ad : Addr, A = some ad ∧ ad.block < B ∧ w.cell? (ad.add (k * 5)) = some (.int .i64 l[k].kind) ∧ w.cell? ⟨(ad.add (k * 5)).block, (ad.add (k * 5)).off + 1, none⟩ = some (.int .u64 l[k].id.1) ∧ w.cell? ⟨(ad.add (k * 5)).block, (ad.add (k * 5)).off + 2, none⟩ = some (.int .i64 l[k].id.2) ∧
      w.cell? ⟨(ad.add (k * 5)).block, (ad.add (k * 5)).off + 3, none⟩ = some (.int .i64 l[k].frm) ∧ w.cell? ⟨(ad.add (k * 5)).block, (ad.add (k * 5)).off + 4, none⟩ = some l[k].p.v := by
  obtain ⟨g0, g1, g2, g3, g4⟩ := pksC_get l k h
  have hl := pksC_len l
  have hat : ∀ (ad : Addr), A = some ad → ∀ j, j < 5 → ∀ u, (pksC l)[k * 5 + j]? = some u → w.cell? (ad.add (k * 5 + j)) = some u := fun ad e j hj u hu => by
    obtain ⟨ad2, e2, _, hc⟩ := hr.at_ (k := k * 5 + j) (by omega)
    obtain rfl : ad = ad2 := by rw [e] at e2; injection e2
    rw [← List.getElem?_eq_getElem] at hc
    exact hc.trans hu
  obtain ⟨ad, rfl, hb, _⟩ := hr.at_ (k := k * 5) (by omega)
  refine ⟨ad, rfl, hb, hat ad rfl 0 (by omega) _ g0, ?_, ?_, ?_, ?_⟩
  · rw [show (⟨(ad.add (k * 5)).block, (ad.add (k * 5)).off + 1, none⟩ : Addr) = ad.add (k * 5 + 1) from add_add ad (k * 5) 1]; exact hat ad rfl 1 (by omega) _ g1
  · rw [show (⟨(ad.add (k * 5)).block, (ad.add (k * 5)).off + 2, none⟩ : Addr) = ad.add (k * 5 + 2) from add_add ad (k * 5) 2]; exact hat ad rfl 2 (by omega) _ g2
  · rw [show (⟨(ad.add (k * 5)).block, (ad.add (k * 5)).off + 3, none⟩ : Addr) = ad.add (k * 5 + 3) from add_add ad (k * 5) 3]; exact hat ad rfl 3 (by omega) _ g3
  · rw [show (⟨(ad.add (k * 5)).block, (ad.add (k * 5)).off + 4, none⟩ : Addr) = ad.add (k * 5 + 4) from add_add ad (k * 5) 4]; exact hat ad rfl 4 (by omega) _ g4
/-- the requests of a round -/
def askQ (l : List IdZ) (j : Nat) : List Pk := l.map fun x => ⟨1, x, ((1024 * j : Nat) : Int), ⟨none, 0, []⟩⟩
theorem askQ_length (l : List IdZ) (j : Nat) : (askQ l j).length = l.length := by simp [askQ]
theorem askQ_get {l : List IdZ} {j i : Nat} (h : i < l.length) (h2 : i < (askQ l j).length) : (askQ l j)[i] = ⟨1, l[i], ((1024 * j : Nat) : Int), ⟨none, 0, []⟩⟩ := by simp [askQ]
theorem MidI.ask {ps : List Part} {r : Rcv} {j : Nat} (h : MidI ps r j) : askP r r.miss = askQ r.miss j := by
  unfold askP askQ
  refine List.map_congr_left fun x hx => ?_
  obtain ⟨h1, h2⟩ := h.pref x hx
  rw [h1, List.length_take, Nat.min_eq_left (by omega)]
theorem srv_right {ps : List Part} (hd : DistP ps) {x : IdZ} (hx : x ∈ idsOf ps) {j : Nat} (hj : 1024 * j < (txt ps x).length) : srvO (rightC ps) 1 x ((1024 * j : Nat) : Int) = some (ansZ (1024 * j) (txt ps x)) := by
  obtain ⟨_, h, _⟩ := txt_id hd hx
  unfold srvO
  rw [if_pos rfl, h]
  show ansO _ _ = _
  unfold ansO
  rw [if_neg (by omega), show ((1024 * j : Nat) : Int).toNat = 1024 * j by omega]
theorem old37 {w W : World} {base cp c4 : Nat} {Ap A4 : Option Addr} {ps : List Part} (h4 : Row w base A4 (chsC (rightC ps))) (hp : Row w base Ap (ps.map Part.v)) (hl : Lie w base ps) (hc : Caps ps) (hS : Pcs37 ps) (hb : Below base w W) (hB : base ≤ w.heap.size) :
    Row W W.heap.size A4 (chsC (rightC ps)) ∧ ChsIn W (rightC ps) ∧ Row W W.heap.size Ap (ps.map Part.v) ∧ Lie W W.heap.size ps := by
  have hs : base ≤ W.heap.size := Nat.le_trans hB hb.size
  have hlW : Lie W W.heap.size ps := fun p hp => ((hl p hp).below hb (Nat.le_refl _)).more hs
  refine ⟨(h4.below hb (Nat.le_refl _)).more hs, fun q hq => ?_, (hp.below hb (Nat.le_refl _)).more hs, hlW⟩
  unfold rightC at hq
  obtain ⟨p, hp, rfl⟩ := List.mem_map.1 hq
  exact ⟨hlW p hp, hc p hp, by have := (hS p hp).len.2.1; show p.zs.length ≤ _; omega⟩

end Go.Proofs.Ytpoiejgoongllaa
