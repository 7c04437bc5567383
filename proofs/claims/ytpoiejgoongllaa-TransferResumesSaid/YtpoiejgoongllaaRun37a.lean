/-
  Rounds, plain (P37.7); transfer.takeAll, transfer.faultsOf.
-/
import Derived.Test.YtpoiejgoongllaaCarry37
namespace Go.Proofs.Ytpoiejgoongllaa
section
set_option linter.unusedVariables false
set_option linter.unusedSimpArgs false
set_option linter.unnecessarySimpa false
open Go.RowKit
attribute [local go_sem ↓] Go.wp_at_zero Go.wp_at_succ

def takeZ (r : Rcv) (p : PkZ) : Rcv := (takeR r p.kind p.id p.frm p.zs).1
def takeAllR (r : Rcv) (l : List PkZ) : Rcv := l.foldl takeZ r
theorem takeAllR_snoc (r : Rcv) (l : List PkZ) (k : Nat) (h : k < l.length) : takeAllR r (l.take (k + 1)) = takeZ (takeAllR r (l.take k)) l[k] := by
  unfold takeAllR; rw [List.take_succ_eq_append_getElem h, List.foldl_append]; rfl
theorem RcOk.takeAll {r : Rcv} (h : RcOk r) {l : List PkZ} (hz : ∀ p ∈ l, Byt p.zs) : RcOk (takeAllR r l) := by
  induction l generalizing r with
  | nil => exact h
  | cons p l ih => exact ih (h.take p.kind p.id p.frm p.zs (hz p (List.mem_cons_self ..))) (fun q hq => hz q (List.mem_cons_of_mem _ hq))
theorem takeAllR_ids (r : Rcv) (l : List PkZ) : (takeAllR r l).ids = r.ids ∧ (takeAllR r l).n = r.n := by
  induction l generalizing r with
  | nil => exact ⟨rfl, rfl⟩
  | cons p l ih =>
    have h := ih (takeZ r p)
    have e : (takeZ r p).ids = r.ids ∧ (takeZ r p).n = r.n := by
      unfold takeZ takeR
      split
      · split
        · exact ⟨rfl, rfl⟩
        · split <;> exact ⟨rfl, rfl⟩
      · exact ⟨rfl, rfl⟩
    exact ⟨h.1.trans e.1, h.2.trans e.2⟩
/-- what a sender answers -/
def answersZ (cs : List ChZ) (l : List PkZ) : List PkZ := l.filterMap fun p => (srvO cs p.kind p.id p.frm).map fun ys => ⟨2, p.id, p.frm, ys⟩
/-- all requests -/
def askZ (r : Rcv) : List PkZ := r.miss.map fun x => ⟨1, x, ((r.pref x).length : Int), []⟩
theorem askZ_eq (r : Rcv) : (askP r r.miss).map Pk.z = askZ r := by unfold askP askZ; rw [List.map_map]; rfl
/-- the faults with an index -/
def ofF (fs : List (List FtZ)) (k : Nat) : List FtZ := fs.getD k []
/-- a round -/
def roundR (cs : List ChZ) (r : Rcv) (f1 f2 : List FtZ) : Rcv := takeAllR r (carryZ (answersZ cs (carryZ (askZ r) f1)) f2)
/-- the state ahead of round n -/
def rcvAt (cs : List ChZ) (fs : List (List FtZ)) (r : Rcv) : Nat → Rcv
  | 0 => r
  | n + 1 => roundR cs (rcvAt cs fs r n) (ofF fs (2 * n)) (ofF fs (2 * n + 1))
/-- n rounds are run -/
def Rounds (cs : List ChZ) (fs : List (List FtZ)) (r : Rcv) (rounds : Int) (n : Nat) : Prop :=
  n ≤ 1024 ∧ (∀ j, j < n → (rcvAt cs fs r j).miss ≠ [] ∧ (j : Int) < rounds) ∧ ((rcvAt cs fs r n).miss = [] ∨ rounds ≤ (n : Int) ∨ n = 1024)
theorem Rounds.uniq {cs : List ChZ} {fs : List (List FtZ)} {r : Rcv} {rounds : Int} {n m : Nat} (h : Rounds cs fs r rounds n) (k : Rounds cs fs r rounds m) : n = m := by
  obtain ⟨h1, h2, h3⟩ := h
  obtain ⟨k1, k2, k3⟩ := k
  rcases Nat.lt_trichotomy n m with hlt | he | hlt
  · obtain ⟨a, b⟩ := k2 n hlt
    rcases h3 with h3 | h3 | h3
    · exact absurd h3 a
    · omega
    · omega
  · exact he
  · obtain ⟨a, b⟩ := h2 m hlt
    rcases k3 with h3 | h3 | h3
    · exact absurd h3 a
    · omega
    · omega

def TakeAllRes (base g M n : Nat) (L : RcL) (r : Rcv) (zs : List PkZ) (w : World) (e : Ending) (w' : World) : Prop := ∃ L', e = .returned (.tuple #[]) ∧ Stp w w' base g M (M + 2 * n) L L' r (takeAllR r zs)
set_option maxRecDepth 100000 in
set_option maxHeartbeats 2000000 in
theorem takeAll37_any {base g M : Nat} {L : RcL} {r : Rcv} (A : Option Addr) (c bp : Nat) (ql : List Pk) (w : World) (h : RcvIs w base g M L r) (ok : RcOk r) (hp : PksIs w bp A c ql) (hF : ∀ k, L.F r g k → k < bp)
    (hwf : ∀ p ∈ ql, WfI p.id ∧ Byt p.p.zs ∧ p.p.zs.length ≤ 4611686018427387904) (hM : M + 2 * ql.length ≤ 1125899906842624) (hbase : base ≤ w.heap.size) (hbp : bp ≤ w.heap.size) :
    Calls Try.prog 56 #[.pointer (some ⟨g, 0, none⟩), .slice A ql.length c] w (TakeAllRes base g M ql.length L r (ql.map Pk.z) w) := by
  obtain ⟨hc1, hc2⟩ := own_cap hp.row
  have HP := Lib.hid hp
  have HF := Lib.hid hF
  have HW := Lib.hid hwf
  have H := Lib.hid h
  have OK := Lib.hid ok
  clear hp hF hwf h ok
  go_enter Try.func56, Try.ntmps56
  go_wp2_with fail
  go_loopw [8] (fun v wr => ∃ (k : Nat) (L' : RcL) (r' : Rcv), k ≤ ql.length ∧ v = .int .i64 k ∧ Hid (r' = takeAllR r ((ql.map Pk.z).take k)) ∧ Hid (RcOk r') ∧ Hid (Stp w wr base g M (M + 2 * k) L L' r r')) (fun v _ => ql.length - (intOf v).toNat)
  case atStart => exact ⟨0, L, r, Nat.zero_le _, rfl, Lib.hid rfl, OK, Lib.hid ((Stp.grew H.out (Grew.refl _)).more (by omega))⟩
  case round =>
    obtain ⟨k, L', r', hk, rfl, HR, HO, HS⟩ := hrel
    by_cases hlt : k < ql.length
    · have hch := HS.out.ch
      have hnF : ∀ q, bp ≤ q → ¬ L.F r g q := fun q hq h => by have := HF.out q h; omega
      have hrow := own_row (own_ch HP.out.row hch (fun q hq h => hnF q (own_lt HP.out.row q hq) h))
      obtain ⟨ad, hA, hbl, d0, d1, d2, d3, d4⟩ := pks_at hrow hlt
      have hxm := List.getElem_mem hlt
      have hox := own_row (own_ch (HP.out.own.own _ hxm) hch (fun q hq h => hnF q (own_lt (HP.out.own.own _ hxm) q hq) h))
      obtain ⟨w1, w2, w3⟩ := HW.out _ hxm
      have hsn := Lib.hid (takeAllR_snoc r (ql.map Pk.z) k (by rw [List.length_map]; exact hlt))
      rw [List.getElem_map] at hsn
      generalize ql[k] = x at *
      obtain ⟨xk, ⟨x1, x2⟩, xf, ⟨xA, xc, xz⟩⟩ := x
      simp only [Part.v] at d0 d1 d2 d3 d4 hox w1 w2 w3
      have ga := grew_alloc wr (.cells #[.int .i64 xk, .int .u64 x1, .int .i64 x2, .int .i64 xf, .slice xA xz.length xc] 55)
      have kB := Blk.new wr 55 #[.int .i64 xk, .int .u64 x1, .int .i64 x2, .int .i64 xf, .slice xA xz.length xc]
      have b0 := (kB.cell 0).trans (show _ = some (.int .i64 xk) from rfl)
      have b1 := (kB.cell 1).trans (show _ = some (.int .u64 x1) from rfl)
      have b2 := (kB.cell 2).trans (show _ = some (.int .i64 x2) from rfl)
      have b3 := (kB.cell 3).trans (show _ = some (.int .i64 xf) from rfl)
      have b4 := (kB.cell 4).trans (show _ = some (.slice xA xz.length xc) from rfl)
      have S0 := Stp.grew HS.out.is ga
      have hs1 := HS.out.ch.size
      have hs2 := ga.size
      have HT := take37_any ⟨xk, (x1, x2), xf, ⟨xA, xc, xz⟩⟩ _ S0.is HO.out w1 (hox.up ga (Nat.le_refl _) |>.more ga.size) w2 w3 (by omega) (by omega)
      unfold TakeRes at HT
      simp only [Part.v] at HT
      have HT' := Lib.hid HT
      have HS0 := Lib.hid (HS.out.trans S0)
      have HB := Lib.hid w2
      clear HT S0 hox ga kB hch hnF hrow w1 w2 w3
      subst hA
      go_wp2_with fail
      refine HT'.out.mono ?_
      clear HT' d0 d1 d2 d3 d4 b0 b1 b2 b3 b4
      rintro e w15 ⟨L15, rfl, S15⟩
      have HS15 := Lib.hid ((HS0.out.trans S15).more (M2 := M + 2 * (k + 1)) (by omega))
      have HO2 := Lib.hid (HO.out.take xk (x1, x2) xf xz HB.out)
      have HE : Hid ((takeR r' xk (x1, x2) xf xz).1 = takeAllR r ((ql.map Pk.z).take (k + 1))) := Lib.hid (by rw [hsn.out, ← HR.out]; rfl)
      clear S15
      go_wp2_with fail
      go_roundw
      case rel => exact ⟨k + 1, L15, _, by omega, by go_num, HE, HO2, HS15⟩
      case measure => simp [intOf]; omega
    · obtain rfl : k = ql.length := by omega
      have hE : r' = takeAllR r (ql.map Pk.z) := by
        have h := HR.out
        rwa [List.take_of_length_le (by rw [List.length_map]; exact Nat.le_refl _)] at h
      subst hE
      go_wp2_with fail
      refine bodyPost_ret (v := .tuple #[]) ?_ rfl ⟨L', rfl, HS.out⟩
      simp [results, Try.results56, go_sem]

/-- a list of faults in memory -/
structure Fts where
  A : Option Addr
  cap : Nat
  fs : List FtZ
def Fts.v (x : Fts) : Value := .slice x.A x.fs.length x.cap
def ftNo : Fts := ⟨none, 0, []⟩
def ofP (fl : List Fts) (k : Nat) : Fts := fl.getD k ftNo
theorem ofP_fs (fl : List Fts) (k : Nat) : (ofP fl k).fs = ofF (fl.map Fts.fs) k := by
  unfold ofP ofF
  rw [List.getD_eq_getElem?_getD, List.getD_eq_getElem?_getD, List.getElem?_map]
  cases fl[k]? <;> rfl
theorem fts_v (f : Fts) : f.v = .slice f.A f.fs.length f.cap := rfl
theorem ftl_at {w : World} {B : Nat} {A : Option Addr} {l : List Fts} (hr : Row w B A (l.map Fts.v)) {k : Nat} (h : k < l.length) : ∃ ad : Addr, A = some ad ∧ ad.block < B ∧ w.cell? (ad.add k) = some (.slice l[k].A l[k].fs.length l[k].cap) := by
  obtain ⟨ad, e, hb, hc⟩ := hr.at_ (k := k) (by rw [List.length_map]; exact h)
  rw [List.getElem_map] at hc
  exact ⟨ad, e, hb, hc⟩
set_option maxHeartbeats 400000 in
theorem faultsOf_any (A : Option Addr) (c B k : Nat) (fl : List Fts) (w : World) (hr : Row w B A (fl.map Fts.v)) (hl : fl.length ≤ 9223372036854775807) :
    Calls Try.prog 51 #[.slice A fl.length c, .int .i64 k] w fun e w' => e = .returned (.slice (ofP fl k).A (ofP fl k).fs.length (ofP fl k).cap) ∧ w = w' := by
  by_cases hk : k < fl.length
  · obtain ⟨ad, rfl, hb, d0⟩ := ftl_at hr hk
    have e : ofP fl k = fl[k] := by unfold ofP; rw [List.getD_eq_getElem?_getD, List.getElem?_eq_getElem hk]; rfl
    rw [e]
    generalize fl[k] = x at *
    have hkI : (k : Int) < (fl.length : Int) := by omega
    go_enter Try.func51, Try.ntmps51
    go_wp2_with fail
    go_ret
    exact ⟨rfl, rfl⟩
  · have e : ofP fl k = ftNo := by unfold ofP; rw [List.getD_eq_getElem?_getD, List.getElem?_eq_none (by omega)]; rfl
    rw [e]
    have hkI : (fl.length : Int) ≤ (k : Int) := by omega
    go_enter Try.func51, Try.ntmps51
    go_wp2_with fail
    go_ret
    exact ⟨rfl, rfl⟩
end
end Go.Proofs.Ytpoiejgoongllaa
