/-
  What is so of the packets of a round (plain).
-/
import Derived.Test.YtpoiejgoongllaaRun37b
namespace Go.Proofs.Ytpoiejgoongllaa
section
set_option linter.unusedVariables false
set_option linter.unusedSimpArgs false
set_option linter.unnecessarySimpa false
open Go.RowKit

def PkzOk (p : PkZ) : Prop := WfI p.id ∧ Byt p.zs ∧ p.zs.length ≤ 1024
theorem flipZ_byt {zs : List Int} (h : Byt zs) (b : Nat) : Byt (flipZ zs b) := by
  unfold flipZ
  intro z hz
  rcases List.mem_or_eq_of_mem_set hz with hz | rfl
  · exact h z hz
  · unfold flipV
    exact ⟨bits_lo_u8 _ _ _, bits_hi_u8 _ _ _⟩
theorem strike_ok {l : List PkZ} {f : FtZ} (h : ∀ p ∈ l, PkzOk p) : ∀ p ∈ strike l f, PkzOk p := fun p hp => by
  rcases strike_mem hp with hp | ⟨x, hx, b, _, _, _, rfl⟩
  · exact h p hp
  · obtain ⟨h1, h2, h3⟩ := h x hx
    exact ⟨h1, flipZ_byt h2 b, by show (flipZ x.zs b).length ≤ 1024; rw [flipZ_length]; exact h3⟩
theorem carryZ_ok {l : List PkZ} {fs : List FtZ} (h : ∀ p ∈ l, PkzOk p) : ∀ p ∈ carryZ l fs, PkzOk p := by
  induction fs generalizing l with
  | nil => exact h
  | cons f fs ih => exact ih (l := strike l f) (strike_ok h)
theorem askZ_ok {r : Rcv} (ok : RcOk r) : ∀ p ∈ askZ r, PkzOk p := fun p hp => by
  unfold askZ at hp
  obtain ⟨x, hx, rfl⟩ := List.mem_map.1 hp
  exact ⟨ok.wf x (ok.sub x hx), fun z hz => (by cases hz), Nat.zero_le _⟩
theorem answersZ_ok {cs : List ChZ} (hc : ∀ c ∈ cs, WfI c.id ∧ Byt c.p.zs) {l : List PkZ} (h : ∀ p ∈ l, PkzOk p) : ∀ p ∈ answersZ cs l, PkzOk p := fun p hp => by
  unfold answersZ at hp
  obtain ⟨q, hq, hs⟩ := List.mem_filterMap.1 hp
  cases hv : srvO cs q.kind q.id q.frm with
  | none => rw [hv] at hs; cases hs
  | some ys =>
    rw [hv] at hs
    injection hs with hs
    subst hs
    unfold srvO at hv
    split at hv
    · rw [findP_C] at hv
      cases hf : findP cs q.id with
      | none => rw [hf] at hv; cases hv
      | some b =>
        rw [hf] at hv
        obtain ⟨c, hc', _, rfl⟩ := findP_mem hf
        simp only [Option.map_some, Option.bind_some] at hv
        unfold ansO at hv
        split at hv
        · cases hv
        · injection hv with hv
          subst hv
          refine ⟨(h q hq).1, ansZ_byt (hc c hc').2 _, ?_⟩
          show (ansZ _ _).length ≤ 1024
          rw [ansZ_len]; omega
    · cases hv
/-- the packets behind step i of a round -/
def zsAt (cs : List ChZ) (r : Rcv) (f1 f2 : List FtZ) : Nat → List PkZ
  | 0 => []
  | 1 => askZ r
  | 2 => carryZ (askZ r) f1
  | 3 => answersZ cs (carryZ (askZ r) f1)
  | _ + 4 => carryZ (answersZ cs (carryZ (askZ r) f1)) f2
theorem zsAt_ok {cs : List ChZ} {r : Rcv} {f1 f2 : List FtZ} (ok : RcOk r) (hc : ∀ c ∈ cs, WfI c.id ∧ Byt c.p.zs) (i : Nat) : ∀ p ∈ zsAt cs r f1 f2 i, PkzOk p := by
  match i with
  | 0 => intro p hp; cases hp
  | 1 => exact askZ_ok ok
  | 2 => exact carryZ_ok (askZ_ok ok)
  | 3 => exact answersZ_ok hc (carryZ_ok (askZ_ok ok))
  | _ + 4 => exact carryZ_ok (answersZ_ok hc (carryZ_ok (askZ_ok ok)))
theorem zsAt_length {cs : List ChZ} {r : Rcv} {f1 f2 : List FtZ} (ok : RcOk r) (h1 : f1.length ≤ 1000) (h2 : f2.length ≤ 1000) (i : Nat) : (zsAt cs r f1 f2 i).length ≤ 4000 := by
  have a1 : (askZ r).length ≤ 1024 := by unfold askZ; rw [List.length_map]; exact ok.len.2.2.1
  have a2 := carryZ_length (askZ r) f1
  have a3 := answersZ_length cs (carryZ (askZ r) f1)
  have a4 := carryZ_length (answersZ cs (carryZ (askZ r) f1)) f2
  match i with
  | 0 => exact Nat.zero_le _
  | 1 => show (askZ r).length ≤ _; omega
  | 2 => show (carryZ (askZ r) f1).length ≤ _; omega
  | 3 => show (answersZ cs (carryZ (askZ r) f1)).length ≤ _; omega
  | _ + 4 => show (carryZ (answersZ cs (carryZ (askZ r) f1)) f2).length ≤ _; omega
theorem mem_z {ql : List Pk} {zs : List PkZ} (h : ql.map Pk.z = zs) (hz : ∀ p ∈ zs, PkzOk p) : ∀ p ∈ ql, WfI p.id ∧ Byt p.p.zs ∧ p.p.zs.length ≤ 1024 := fun p hp => by
  have h1 : p.z ∈ ql.map Pk.z := List.mem_map_of_mem hp
  rw [h] at h1
  exact hz _ h1
theorem len_z {ql : List Pk} {zs : List PkZ} (h : ql.map Pk.z = zs) : ql.length = zs.length := by rw [← h, List.length_map]
theorem PksIs.in_ {w : World} {base c : Nat} {A : Option Addr} {ql : List Pk} (h : PksIs w base A c ql) (hz : ∀ p ∈ ql, WfI p.id ∧ Byt p.p.zs ∧ p.p.zs.length ≤ 1024) : PksIn w ql := fun x hx => ⟨own_row (h.own.own x hx), by have := (hz x hx).2.2; omega⟩
theorem ofF_mem {fs : List (List FtZ)} {k : Nat} {Q : List FtZ → Prop} (h0 : Q []) (h : ∀ f ∈ fs, Q f) : Q (ofF fs k) := by
  unfold ofF
  rw [List.getD_eq_getElem?_getD]
  rcases Nat.lt_or_ge k fs.length with hk | hk
  · rw [List.getElem?_eq_getElem hk]; exact h _ (List.getElem_mem hk)
  · rw [List.getElem?_eq_none hk]; exact h0
theorem ofP_mem {fl : List Fts} {k : Nat} {Q : Fts → Prop} (h0 : Q ftNo) (h : ∀ f ∈ fl, Q f) : Q (ofP fl k) := by
  unfold ofP
  rw [List.getD_eq_getElem?_getD]
  rcases Nat.lt_or_ge k fl.length with hk | hk
  · rw [List.getElem?_eq_getElem hk]; exact h _ (List.getElem_mem hk)
  · rw [List.getElem?_eq_none hk]; exact h0
theorem roundR_zs (cs : List ChZ) (r : Rcv) (f1 f2 : List FtZ) : roundR cs r f1 f2 = takeAllR r (zsAt cs r f1 f2 4) := rfl
def cellInt (w : World) (p : Addr) : Nat := match w.cell? p with | some (.int _ n) => n.toNat | _ => 0
theorem cellInt_of {w : World} {p : Addr} {k : IntKind} {n : Nat} (h : w.cell? p = some (.int k n)) : cellInt w p = n := by unfold cellInt; rw [h]; simp
end
end Go.Proofs.Ytpoiejgoongllaa
