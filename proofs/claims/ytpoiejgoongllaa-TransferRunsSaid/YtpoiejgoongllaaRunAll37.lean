/-
  Run37a, Clos37, Answ37, Steps37, Run37b, Run37c, Run37d, Run37.
-/
import Derived.Test.YtpoiejgoongllaaChan37
namespace Go.Proofs.Ytpoiejgoongllaa
/- Run37a:
  Rounds, plain (P37.7); transfer.takeAll, transfer.faultsOf.
-/
section
section
set_option linter.unusedVariables false
set_option linter.unusedSimpArgs false
set_option linter.unnecessarySimpa false
open Go.RowKit
attribute [local go_sem ↓] Go.wp_at_zero Go.wp_at_succ

def takeZ (r : Rcv) (p : PkZ) : Rcv := (takeR r p.kind p.id p.frm p.zs).1
def takeAllR (r : Rcv) (l : List PkZ) : Rcv := l.foldl takeZ r
theorem takeAllR_snoc (r : Rcv) (l : List PkZ) (k : Nat) (h : k < l.length) : takeAllR r (l.take (k + 1)) = takeZ (takeAllR r (l.take k)) l[k] := by
  unfold takeAllR; rw [List.take_succ_eq_append_getElem h, List.foldl_append]; rfl
theorem RcOk.takeAll {r : Rcv} (h : RcOk r) {l : List PkZ} (hz : ∀ p ∈ l, Byt p.zs) : RcOk (takeAllR r l) := by
  induction l generalizing r with
  | nil => exact h
  | cons p l ih => exact ih (h.take p.kind p.id p.frm p.zs (hz p (List.mem_cons_self ..))) (fun q hq => hz q (List.mem_cons_of_mem _ hq))
theorem takeAllR_ids (r : Rcv) (l : List PkZ) : (takeAllR r l).ids = r.ids ∧ (takeAllR r l).n = r.n := by
  induction l generalizing r with
  | nil => exact ⟨rfl, rfl⟩
  | cons p l ih =>
    have h := ih (takeZ r p)
    have e : (takeZ r p).ids = r.ids ∧ (takeZ r p).n = r.n := by
      unfold takeZ takeR
      split
      · split
        · exact ⟨rfl, rfl⟩
        · split <;> exact ⟨rfl, rfl⟩
      · exact ⟨rfl, rfl⟩
    exact ⟨h.1.trans e.1, h.2.trans e.2⟩
/-- what a sender answers -/
def answersZ (cs : List ChZ) (l : List PkZ) : List PkZ := l.filterMap fun p => (srvO cs p.kind p.id p.frm).map fun ys => ⟨2, p.id, p.frm, ys⟩
/-- all requests -/
def askZ (r : Rcv) : List PkZ := r.miss.map fun x => ⟨1, x, ((r.pref x).length : Int), []⟩
theorem askZ_eq (r : Rcv) : (askP r r.miss).map Pk.z = askZ r := by unfold askP askZ; rw [List.map_map]; rfl
/-- the faults with an index -/
def ofF (fs : List (List FtZ)) (k : Nat) : List FtZ := fs.getD k []
/-- a round -/
def roundR (cs : List ChZ) (r : Rcv) (f1 f2 : List FtZ) : Rcv := takeAllR r (carryZ (answersZ cs (carryZ (askZ r) f1)) f2)
/-- the state ahead of round n -/
def rcvAt (cs : List ChZ) (fs : List (List FtZ)) (r : Rcv) : Nat → Rcv
  | 0 => r
  | n + 1 => roundR cs (rcvAt cs fs r n) (ofF fs (2 * n)) (ofF fs (2 * n + 1))
/-- n rounds are run -/
def Rounds (cs : List ChZ) (fs : List (List FtZ)) (r : Rcv) (rounds : Int) (n : Nat) : Prop :=
  n ≤ 1024 ∧ (∀ j, j < n → (rcvAt cs fs r j).miss ≠ [] ∧ (j : Int) < rounds) ∧ ((rcvAt cs fs r n).miss = [] ∨ rounds ≤ (n : Int) ∨ n = 1024)
theorem Rounds.uniq {cs : List ChZ} {fs : List (List FtZ)} {r : Rcv} {rounds : Int} {n m : Nat} (h : Rounds cs fs r rounds n) (k : Rounds cs fs r rounds m) : n = m := by
  obtain ⟨h1, h2, h3⟩ := h
  obtain ⟨k1, k2, k3⟩ := k
  rcases Nat.lt_trichotomy n m with hlt | he | hlt
  · obtain ⟨a, b⟩ := k2 n hlt
    rcases h3 with h3 | h3 | h3
    · exact absurd h3 a
    · omega
    · omega
  · exact he
  · obtain ⟨a, b⟩ := h2 m hlt
    rcases k3 with h3 | h3 | h3
    · exact absurd h3 a
    · omega
    · omega

def TakeAllRes (base g M n : Nat) (L : RcL) (r : Rcv) (zs : List PkZ) (w : World) (e : Ending) (w' : World) : Prop := ∃ L', e = .returned (.tuple #[]) ∧ Stp w w' base g M (M + 2 * n) L L' r (takeAllR r zs)
set_option maxRecDepth 100000 in
set_option maxHeartbeats 2000000 in
theorem takeAll37_any {base g M : Nat} {L : RcL} {r : Rcv} (A : Option Addr) (c bp : Nat) (ql : List Pk) (w : World) (h : RcvIs w base g M L r) (ok : RcOk r) (hp : PksIs w bp A c ql) (hF : ∀ k, L.F r g k → k < bp)
    (hwf : ∀ p ∈ ql, WfI p.id ∧ Byt p.p.zs ∧ p.p.zs.length ≤ 4611686018427387904) (hM : M + 2 * ql.length ≤ 1125899906842624) (hbase : base ≤ w.heap.size) (hbp : bp ≤ w.heap.size) :
    Calls Try.prog 56 #[.pointer (some ⟨g, 0, none⟩), .slice A ql.length c] w (TakeAllRes base g M ql.length L r (ql.map Pk.z) w) := by
  obtain ⟨hc1, hc2⟩ := own_cap hp.row
  have HP := Lib.hid hp
  have HF := Lib.hid hF
  have HW := Lib.hid hwf
  have H := Lib.hid h
  have OK := Lib.hid ok
  clear hp hF hwf h ok
  go_enter Try.func56, Try.ntmps56
  go_wp2_with fail
  go_loopw [8] (fun v wr => ∃ (k : Nat) (L' : RcL) (r' : Rcv), k ≤ ql.length ∧ v = .int .i64 k ∧ Hid (r' = takeAllR r ((ql.map Pk.z).take k)) ∧ Hid (RcOk r') ∧ Hid (Stp w wr base g M (M + 2 * k) L L' r r')) (fun v _ => ql.length - (intOf v).toNat)
  case atStart => exact ⟨0, L, r, Nat.zero_le _, rfl, Lib.hid rfl, OK, Lib.hid ((Stp.grew H.out (Grew.refl _)).more (by omega))⟩
  case round =>
    obtain ⟨k, L', r', hk, rfl, HR, HO, HS⟩ := hrel
    by_cases hlt : k < ql.length
    · have hch := HS.out.ch
      have hnF : ∀ q, bp ≤ q → ¬ L.F r g q := fun q hq h => by have := HF.out q h; omega
      have hrow := own_row (own_ch HP.out.row hch (fun q hq h => hnF q (own_lt HP.out.row q hq) h))
      obtain ⟨ad, hA, hbl, d0, d1, d2, d3, d4⟩ := pks_at hrow hlt
      have hxm := List.getElem_mem hlt
      have hox := own_row (own_ch (HP.out.own.own _ hxm) hch (fun q hq h => hnF q (own_lt (HP.out.own.own _ hxm) q hq) h))
      obtain ⟨w1, w2, w3⟩ := HW.out _ hxm
      have hsn := Lib.hid (takeAllR_snoc r (ql.map Pk.z) k (by rw [List.length_map]; exact hlt))
      rw [List.getElem_map] at hsn
      generalize ql[k] = x at *
      obtain ⟨xk, ⟨x1, x2⟩, xf, ⟨xA, xc, xz⟩⟩ := x
      simp only [Part.v] at d0 d1 d2 d3 d4 hox w1 w2 w3
      have ga := grew_alloc wr (.cells #[.int .i64 xk, .int .u64 x1, .int .i64 x2, .int .i64 xf, .slice xA xz.length xc] 55)
      have kB := Blk.new wr 55 #[.int .i64 xk, .int .u64 x1, .int .i64 x2, .int .i64 xf, .slice xA xz.length xc]
      have b0 := (kB.cell 0).trans (show _ = some (.int .i64 xk) from rfl)
      have b1 := (kB.cell 1).trans (show _ = some (.int .u64 x1) from rfl)
      have b2 := (kB.cell 2).trans (show _ = some (.int .i64 x2) from rfl)
      have b3 := (kB.cell 3).trans (show _ = some (.int .i64 xf) from rfl)
      have b4 := (kB.cell 4).trans (show _ = some (.slice xA xz.length xc) from rfl)
      have S0 := Stp.grew HS.out.is ga
      have hs1 := HS.out.ch.size
      have hs2 := ga.size
      have HT := take37_any ⟨xk, (x1, x2), xf, ⟨xA, xc, xz⟩⟩ _ S0.is HO.out w1 (hox.up ga (Nat.le_refl _) |>.more ga.size) w2 w3 (by omega) (by omega)
      unfold TakeRes at HT
      simp only [Part.v] at HT
      have HT' := Lib.hid HT
      have HS0 := Lib.hid (HS.out.trans S0)
      have HB := Lib.hid w2
      clear HT S0 hox ga kB hch hnF hrow w1 w2 w3
      subst hA
      go_wp2_with fail
      refine HT'.out.mono ?_
      clear HT' d0 d1 d2 d3 d4 b0 b1 b2 b3 b4
      rintro e w15 ⟨L15, rfl, S15⟩
      have HS15 := Lib.hid ((HS0.out.trans S15).more (M2 := M + 2 * (k + 1)) (by omega))
      have HO2 := Lib.hid (HO.out.take xk (x1, x2) xf xz HB.out)
      have HE : Hid ((takeR r' xk (x1, x2) xf xz).1 = takeAllR r ((ql.map Pk.z).take (k + 1))) := Lib.hid (by rw [hsn.out, ← HR.out]; rfl)
      clear S15
      go_wp2_with fail
      go_roundw
      case rel => exact ⟨k + 1, L15, _, by omega, by go_num, HE, HO2, HS15⟩
      case measure => simp [intOf]; omega
    · obtain rfl : k = ql.length := by omega
      have hE : r' = takeAllR r (ql.map Pk.z) := by
        have h := HR.out
        rwa [List.take_of_length_le (by rw [List.length_map]; exact Nat.le_refl _)] at h
      subst hE
      go_wp2_with fail
      refine bodyPost_ret (v := .tuple #[]) ?_ rfl ⟨L', rfl, HS.out⟩
      simp [results, Try.results56, go_sem]

/-- a list of faults in memory -/
structure Fts where
  A : Option Addr
  cap : Nat
  fs : List FtZ
def Fts.v (x : Fts) : Value := .slice x.A x.fs.length x.cap
def ftNo : Fts := ⟨none, 0, []⟩
def ofP (fl : List Fts) (k : Nat) : Fts := fl.getD k ftNo
theorem ofP_fs (fl : List Fts) (k : Nat) : (ofP fl k).fs = ofF (fl.map Fts.fs) k := by
  unfold ofP ofF
  rw [List.getD_eq_getElem?_getD, List.getD_eq_getElem?_getD, List.getElem?_map]
  cases fl[k]? <;> rfl
theorem fts_v (f : Fts) : f.v = .slice f.A f.fs.length f.cap := rfl
theorem ftl_at {w : World} {B : Nat} {A : Option Addr} {l : List Fts} (hr : Row w B A (l.map Fts.v)) {k : Nat} (h : k < l.length) : ∃ ad : Addr, A = some ad ∧ ad.block < B ∧ w.cell? (ad.add k) = some (.slice l[k].A l[k].fs.length l[k].cap) := by
  obtain ⟨ad, e, hb, hc⟩ := hr.at_ (k := k) (by rw [List.length_map]; exact h)
  rw [List.getElem_map] at hc
  exact ⟨ad, e, hb, hc⟩
set_option maxHeartbeats 400000 in
theorem faultsOf_any (A : Option Addr) (c B k : Nat) (fl : List Fts) (w : World) (hr : Row w B A (fl.map Fts.v)) (hl : fl.length ≤ 9223372036854775807) :
    Calls Try.prog 51 #[.slice A fl.length c, .int .i64 k] w fun e w' => e = .returned (.slice (ofP fl k).A (ofP fl k).fs.length (ofP fl k).cap) ∧ w = w' := by
  by_cases hk : k < fl.length
  · obtain ⟨ad, rfl, hb, d0⟩ := ftl_at hr hk
    have e : ofP fl k = fl[k] := by unfold ofP; rw [List.getD_eq_getElem?_getD, List.getElem?_eq_getElem hk]; rfl
    rw [e]
    generalize fl[k] = x at *
    have hkI : (k : Int) < (fl.length : Int) := by omega
    go_enter Try.func51, Try.ntmps51
    go_wp2_with fail
    go_ret
    exact ⟨rfl, rfl⟩
  · have e : ofP fl k = ftNo := by unfold ofP; rw [List.getD_eq_getElem?_getD, List.getElem?_eq_none (by omega)]; rfl
    rw [e]
    have hkI : (fl.length : Int) ≤ (k : Int) := by omega
    go_enter Try.func51, Try.ntmps51
    go_wp2_with fail
    go_ret
    exact ⟨rfl, rfl⟩
end
end

/- Clos37:
  The sender's closure of transfer.Run; transfer.answers.
-/
section
section
set_option linter.unusedVariables false
set_option linter.unusedSimpArgs false
set_option linter.unnecessarySimpa false
open Go.RowKit
attribute [local go_sem ↓] Go.wp_at_zero Go.wp_at_succ

/-- the first chunk with an ID -/
def findP (cs : List ChZ) (x : IdZ) : Option Part := (cs.find? fun c => decide (c.id = x)).map fun c => c.p
theorem findP_C (cs : List ChZ) (x : IdZ) : findC cs x = (findP cs x).map Part.zs := by
  unfold findC findP
  cases cs.find? (fun c => decide (c.id = x)) <;> rfl
theorem findP_mem {cs : List ChZ} {x : IdZ} {p : Part} (h : findP cs x = some p) : ∃ c ∈ cs, c.id = x ∧ c.p = p := by
  unfold findP at h
  cases hf : cs.find? (fun c => decide (c.id = x)) with
  | none => rw [hf] at h; cases h
  | some c =>
    rw [hf] at h
    injection h with h
    have h1 := List.find?_some hf
    simp only [decide_eq_true_eq] at h1
    exact ⟨c, List.mem_of_find?_eq_some hf, h1, h⟩
/-- the sender's map: the first chunk's bytes of each ID -/
def sndM (cs : List ChZ) : IdZ → Option Value := fun x => (findP cs x).map Part.v
set_option maxRecDepth 100000 in
theorem MapIs.look' {w : World} {b n : Nat} {f : IdZ → Option Value} {xs xn : Int} {t e : TypeId} {z : Value} (h : MapIs w b n f) (wx : WfI (xs, xn)) (ht : Try.prog.underlying t = some (.map 53 e)) (hz : (zeroValue e).run Try.prog w = .ok z w) :
    (Instr.lookup t (.map (some b)) (.agg #[.int .u64 xs, .int .i64 xn]) true).run Try.prog w = .ok (.tuple #[(f (xs, xn)).getD z, .bool (f (xs, xn)).isSome]) w := h.look wx ht hz
set_option maxRecDepth 100000 in
set_option maxHeartbeats 1000000 in
theorem clos_no (x : Pk) (gb bm N : Nat) (cs : List ChZ) (w : World) (hb : Blk w gb 94 #[.map (some bm)]) (hm : MapIs w bm N (sndM cs)) (hin : ChsIn w cs) (wx : WfI x.id) (hno : findP cs x.id = none ∨ x.kind ≠ 1) :
    Calls Try.prog 47 #[.agg #[.int .i64 x.kind, .int .u64 x.id.1, .int .i64 x.id.2, .int .i64 x.frm, x.p.v], .pointer (some ⟨gb, 0, none⟩)] w (AnsRes none x w) := by
  obtain ⟨k, ⟨i1, i2⟩, f, p⟩ := x
  simp only at wx hno ⊢
  have g1 := grew_alloc w (.cells #[.int .i64 k, .int .u64 i1, .int .i64 i2, .int .i64 f, p.v] 55)
  have k1 := Blk.new w 55 #[.int .i64 k, .int .u64 i1, .int .i64 i2, .int .i64 f, p.v]
  have s1 : (w.alloc (.cells #[.int .i64 k, .int .u64 i1, .int .i64 i2, .int .i64 f, p.v] 55)).heap.size = w.heap.size + 1 := by simp
  generalize hw1 : w.alloc (.cells #[.int .i64 k, .int .u64 i1, .int .i64 i2, .int .i64 f, p.v] 55) = w1 at *
  have g2 := grew_alloc w1 (.cells #[.int .i64 0, .int .u64 0, .int .i64 0, .int .i64 0, .slice none 0 0] 55)
  have k2 := Blk.new w1 55 #[.int .i64 0, .int .u64 0, .int .i64 0, .int .i64 0, .slice none 0 0]
  replace k1 := k1.of g2
  rw [s1] at k2
  have gg := Grew.trans g1 g2
  have c0 := (k1.cell 0).trans (show _ = some (.int .i64 k) from rfl)
  have c1 := (k1.cell 1).trans (show _ = some (.int .u64 i1) from rfl)
  have c2 := (k1.cell 2).trans (show _ = some (.int .i64 i2) from rfl)
  have c3 := (k1.cell 3).trans (show _ = some (.int .i64 f) from rfl)
  have c4 := (k1.cell 4).trans (show _ = some p.v from rfl)
  have kb := hb.of gg
  have m0 := (kb.cell 0).trans (show _ = some (.map (some bm)) from rfl)
  have hmap := hm.of gg
  have hl := hmap.look' (xs := i1) (xn := i2) wx Try.underlying94 (z := .slice none 0 0) (by kernel_rfl)
  subst hw1
  clear g1 g2 s1
  have HG := Lib.hid gg
  have HIN := Lib.hid (hin.up gg)
  have HK2 := Lib.hid k2
  have HNo := Lib.hid hno
  clear hno
  have HFs := HK2
  have HGs := HG
  clear k2 gg
  by_cases hk : k = 1
  · have hn : sndM cs (i1, i2) = none := by
      rcases HNo.out with h | h
      · unfold sndM; rw [h]; rfl
      · exact absurd hk h
    rw [hn] at hl
    clear hn
    subst hk
    go_enter Try.func47, Try.ntmps47
    go_wp2_with fail
    have f0 := (HFs.out.cell 0).trans (show _ = some (.int .i64 0) from rfl)
    have f1 := (HFs.out.cell 1).trans (show _ = some (.int .u64 0) from rfl)
    have f2 := (HFs.out.cell 2).trans (show _ = some (.int .i64 0) from rfl)
    have f3 := (HFs.out.cell 3).trans (show _ = some (.int .i64 0) from rfl)
    have f4 := (HFs.out.cell 4).trans (show _ = some (.slice none 0 0) from rfl)
    refine bodyPost_ret (v := .tuple #[pk0, .bool false]) ?_ rfl ⟨rfl, HGs.out⟩
    simp [results, Try.results47, go_sem, pk0, f0, f1, f2, f3, f4]
  · have hkd : decide (k = 1) = false := by simp [hk]
    cases hf : sndM cs (i1, i2) with
    | none =>
      rw [hf] at hl
      clear hf
      go_enter Try.func47, Try.ntmps47
      go_wp2_with fail
      have f0 := (HFs.out.cell 0).trans (show _ = some (.int .i64 0) from rfl)
      have f1 := (HFs.out.cell 1).trans (show _ = some (.int .u64 0) from rfl)
      have f2 := (HFs.out.cell 2).trans (show _ = some (.int .i64 0) from rfl)
      have f3 := (HFs.out.cell 3).trans (show _ = some (.int .i64 0) from rfl)
      have f4 := (HFs.out.cell 4).trans (show _ = some (.slice none 0 0) from rfl)
      refine bodyPost_ret (v := .tuple #[pk0, .bool false]) ?_ rfl ⟨rfl, HGs.out⟩
      simp [results, Try.results47, go_sem, pk0, f0, f1, f2, f3, f4]
    | some v =>
      rw [hf] at hl
      clear hf
      go_enter Try.func47, Try.ntmps47
      go_wp2_with fail
      have f0 := (HFs.out.cell 0).trans (show _ = some (.int .i64 0) from rfl)
      have f1 := (HFs.out.cell 1).trans (show _ = some (.int .u64 0) from rfl)
      have f2 := (HFs.out.cell 2).trans (show _ = some (.int .i64 0) from rfl)
      have f3 := (HFs.out.cell 3).trans (show _ = some (.int .i64 0) from rfl)
      have f4 := (HFs.out.cell 4).trans (show _ = some (.slice none 0 0) from rfl)
      refine bodyPost_ret (v := .tuple #[pk0, .bool false]) ?_ rfl ⟨rfl, HGs.out⟩
      simp [results, Try.results47, go_sem, pk0, f0, f1, f2, f3, f4]
set_option maxRecDepth 100000 in
set_option maxHeartbeats 1000000 in
theorem clos_yes (x : Pk) (gb bm N : Nat) (cs : List ChZ) (w : World) (hb : Blk w gb 94 #[.map (some bm)]) (hm : MapIs w bm N (sndM cs)) (hin : ChsIn w cs) (wx : WfI x.id) (b : Part) (hp : findP cs x.id = some b) (hk : x.kind = 1) :
    Calls Try.prog 47 #[.agg #[.int .i64 x.kind, .int .u64 x.id.1, .int .i64 x.id.2, .int .i64 x.frm, x.p.v], .pointer (some ⟨gb, 0, none⟩)] w (AnsRes (ansO x.frm b.zs) x w) := by
  obtain ⟨k, ⟨i1, i2⟩, f, p⟩ := x
  simp only at wx hp hk ⊢
  subst hk
  have g1 := grew_alloc w (.cells #[.int .i64 1, .int .u64 i1, .int .i64 i2, .int .i64 f, p.v] 55)
  have k1 := Blk.new w 55 #[.int .i64 1, .int .u64 i1, .int .i64 i2, .int .i64 f, p.v]
  have s1 : (w.alloc (.cells #[.int .i64 1, .int .u64 i1, .int .i64 i2, .int .i64 f, p.v] 55)).heap.size = w.heap.size + 1 := by simp
  generalize hw1 : w.alloc (.cells #[.int .i64 1, .int .u64 i1, .int .i64 i2, .int .i64 f, p.v] 55) = w1 at *
  have g2 := grew_alloc w1 (.cells #[.int .i64 0, .int .u64 0, .int .i64 0, .int .i64 0, .slice none 0 0] 55)
  have k2 := Blk.new w1 55 #[.int .i64 0, .int .u64 0, .int .i64 0, .int .i64 0, .slice none 0 0]
  replace k1 := k1.of g2
  rw [s1] at k2
  have gg := Grew.trans g1 g2
  have c0 := (k1.cell 0).trans (show _ = some (.int .i64 1) from rfl)
  have c1 := (k1.cell 1).trans (show _ = some (.int .u64 i1) from rfl)
  have c2 := (k1.cell 2).trans (show _ = some (.int .i64 i2) from rfl)
  have c3 := (k1.cell 3).trans (show _ = some (.int .i64 f) from rfl)
  have c4 := (k1.cell 4).trans (show _ = some p.v from rfl)
  have kb := hb.of gg
  have m0 := (kb.cell 0).trans (show _ = some (.map (some bm)) from rfl)
  have hmap := hm.of gg
  have hl := hmap.look' (xs := i1) (xn := i2) wx Try.underlying94 (z := .slice none 0 0) (by kernel_rfl)
  subst hw1
  clear g1 g2 s1
  have HG := Lib.hid gg
  have HIN := Lib.hid (hin.up gg)
  have HK2 := Lib.hid k2
  have hn : sndM cs (i1, i2) = some b.v := by unfold sndM; rw [hp]; rfl
  rw [hn] at hl
  clear hn
  obtain ⟨c', hc', _, hcp⟩ := findP_mem hp
  have hci := HIN.out c' hc'
  rw [hcp] at hci
  obtain ⟨h1, h2, h3⟩ := hci
  have HA := Lib.hid (answer_any ⟨1, (i1, i2), f, p⟩ b _ h1 h2 h3)
  simp only at HA
  obtain ⟨bA, bc, zs⟩ := b
  rw [show Part.v ⟨bA, bc, zs⟩ = .slice bA zs.length bc from rfl] at hl
  simp only at HA ⊢
  clear h1 h2 h3 hcp hc' hp
  generalize p.v = pv at *
  generalize ansO f zs = o at *
  have hgr : w.heap.size < w.heap.size + 1 := by omega
  generalize hgq : w.heap.size + 1 = gr at *
  have HLo := Lib.hid (show w.heap.size ≤ gr by omega)
  clear gg k2
  go_enter Try.func47, Try.ntmps47
  go_wp2_with fail
  refine HA.out.mono ?_
  clear HA c0 c1 c2 c3 c4 kb m0 hl hmap k1
  rintro e w3 hres
  cases o with
  | none =>
    obtain ⟨rfl, hg⟩ := hres
    have k2r := HK2.out.of hg
    have hgw : Grew w w3 := HG.out.trans hg
    unfold pk0
    have y0 := k2r.frozen 0
    have y1 := k2r.frozen 1
    have y2 := k2r.frozen 2
    have y3 := k2r.frozen 3
    have y4 := k2r.frozen 4
    have q0 := (k2r.cell 0).trans (show _ = some (.int .i64 0) from rfl)
    have q1 := (k2r.cell 1).trans (show _ = some (.int .u64 0) from rfl)
    have q2 := (k2r.cell 2).trans (show _ = some (.int .i64 0) from rfl)
    have q3 := (k2r.cell 3).trans (show _ = some (.int .i64 0) from rfl)
    have q4 := (k2r.cell 4).trans (show _ = some (.slice none 0 0) from rfl)
    have HFs := Lib.hid (((((k2r.set_ 0 (.int .i64 0)).set_ 1 (.int .u64 0)).set_ 2 (.int .i64 0)).set_ 3 (.int .i64 0)).set_ 4 (.slice none 0 0))
    have hCs : Ch (At gr) w3 (((((w3.setCell ⟨gr, 0, none⟩ (.int .i64 0)).setCell ⟨gr, 1, none⟩ (.int .u64 0)).setCell ⟨gr, 2, none⟩ (.int .i64 0)).setCell ⟨gr, 3, none⟩ (.int .i64 0)).setCell ⟨gr, 4, none⟩ (.slice none 0 0)) := ((((((Ch.refl (At gr) w3).set_at 0 (.int .i64 0)).set_at 1 (.int .u64 0)).set_at 2 (.int .i64 0)).set_at 3 (.int .i64 0)).set_at 4 (.slice none 0 0))
    have HGs : Hid (Grew w (((((w3.setCell ⟨gr, 0, none⟩ (.int .i64 0)).setCell ⟨gr, 1, none⟩ (.int .u64 0)).setCell ⟨gr, 2, none⟩ (.int .i64 0)).setCell ⟨gr, 3, none⟩ (.int .i64 0)).setCell ⟨gr, 4, none⟩ (.slice none 0 0))) := Lib.hid (Below.trans (B := w.heap.size) hgw (hCs.below (Below.size hgw) (fun i hi => by have h : i = gr := hi; have := HLo.out; omega)))
    clear hCs
    clear k2r hgw hg
    go_wp2_with fail
    have f0 := (HFs.out.cell 0).trans (show _ = some (.int .i64 0) from rfl)
    have f1 := (HFs.out.cell 1).trans (show _ = some (.int .u64 0) from rfl)
    have f2 := (HFs.out.cell 2).trans (show _ = some (.int .i64 0) from rfl)
    have f3 := (HFs.out.cell 3).trans (show _ = some (.int .i64 0) from rfl)
    have f4 := (HFs.out.cell 4).trans (show _ = some (.slice none 0 0) from rfl)
    refine bodyPost_ret (v := .tuple #[pk0, .bool false]) ?_ rfl ⟨rfl, HGs.out⟩
    simp [results, Try.results47, go_sem, pk0, f0, f1, f2, f3, f4]
  | some ys =>
    obtain ⟨A, c, rfl, hown, hg⟩ := hres
    have k2r := HK2.out.of hg
    have hgw : Grew w w3 := HG.out.trans hg
    have hs0 : ((w.alloc (.cells #[.int .i64 1, .int .u64 i1, .int .i64 i2, .int .i64 f, pv] 55)).alloc (.cells #[.int .i64 0, .int .u64 0, .int .i64 0, .int .i64 0, .slice none 0 0] 55)).heap.size = gr + 1 := by simp; omega
    rw [hs0] at hown
    unfold pkV Part.v
    simp only
    have y0 := k2r.frozen 0
    have y1 := k2r.frozen 1
    have y2 := k2r.frozen 2
    have y3 := k2r.frozen 3
    have y4 := k2r.frozen 4
    have q0 := (k2r.cell 0).trans (show _ = some (.int .i64 0) from rfl)
    have q1 := (k2r.cell 1).trans (show _ = some (.int .u64 0) from rfl)
    have q2 := (k2r.cell 2).trans (show _ = some (.int .i64 0) from rfl)
    have q3 := (k2r.cell 3).trans (show _ = some (.int .i64 0) from rfl)
    have q4 := (k2r.cell 4).trans (show _ = some (.slice none 0 0) from rfl)
    have HFs := Lib.hid (((((k2r.set_ 0 (.int .i64 2)).set_ 1 (.int .u64 i1)).set_ 2 (.int .i64 i2)).set_ 3 (.int .i64 f)).set_ 4 (.slice A ys.length c))
    have hCs : Ch (At gr) w3 (((((w3.setCell ⟨gr, 0, none⟩ (.int .i64 2)).setCell ⟨gr, 1, none⟩ (.int .u64 i1)).setCell ⟨gr, 2, none⟩ (.int .i64 i2)).setCell ⟨gr, 3, none⟩ (.int .i64 f)).setCell ⟨gr, 4, none⟩ (.slice A ys.length c)) := ((((((Ch.refl (At gr) w3).set_at 0 (.int .i64 2)).set_at 1 (.int .u64 i1)).set_at 2 (.int .i64 i2)).set_at 3 (.int .i64 f)).set_at 4 (.slice A ys.length c))
    have HGs : Hid (Grew w (((((w3.setCell ⟨gr, 0, none⟩ (.int .i64 2)).setCell ⟨gr, 1, none⟩ (.int .u64 i1)).setCell ⟨gr, 2, none⟩ (.int .i64 i2)).setCell ⟨gr, 3, none⟩ (.int .i64 f)).setCell ⟨gr, 4, none⟩ (.slice A ys.length c))) := Lib.hid (Below.trans (B := w.heap.size) hgw (hCs.below (Below.size hgw) (fun i hi => by have h : i = gr := hi; have := HLo.out; omega)))
    have HOs := Lib.hid (own_ch hown hCs (fun i hi h => by have h1 := own_lt hown i hi; have h2 : i = gr := h; omega))
    clear hCs
    clear k2r hgw hg hown hs0
    go_wp2_with fail
    have f0 := (HFs.out.cell 0).trans (show _ = some (.int .i64 2) from rfl)
    have f1 := (HFs.out.cell 1).trans (show _ = some (.int .u64 i1) from rfl)
    have f2 := (HFs.out.cell 2).trans (show _ = some (.int .i64 i2) from rfl)
    have f3 := (HFs.out.cell 3).trans (show _ = some (.int .i64 f) from rfl)
    have f4 := (HFs.out.cell 4).trans (show _ = some (.slice A ys.length c) from rfl)
    refine bodyPost_ret (v := .tuple #[.agg #[.int .i64 2, .int .u64 i1, .int .i64 i2, .int .i64 f, .slice A ys.length c], .bool true]) ?_ rfl ⟨A, c, rfl, own_mono HOs.out (by have := HLo.out; omega), HGs.out⟩
    simp [results, Try.results47, go_sem, pk0, f0, f1, f2, f3, f4]
theorem clos37_any (x : Pk) (gb bm N : Nat) (cs : List ChZ) (w : World) (hb : Blk w gb 94 #[.map (some bm)]) (hm : MapIs w bm N (sndM cs)) (hin : ChsIn w cs) (wx : WfI x.id) :
    Calls Try.prog 47 #[.agg #[.int .i64 x.kind, .int .u64 x.id.1, .int .i64 x.id.2, .int .i64 x.frm, x.p.v], .pointer (some ⟨gb, 0, none⟩)] w (AnsRes (srvO cs x.kind x.id x.frm) x w) := by
  by_cases hk : x.kind = 1
  · cases hf : findP cs x.id with
    | none =>
      have e : srvO cs x.kind x.id x.frm = none := by unfold srvO; rw [if_pos hk, findP_C, hf]; rfl
      rw [e]
      exact clos_no x gb bm N cs w hb hm hin wx (.inl hf)
    | some b =>
      have e : srvO cs x.kind x.id x.frm = ansO x.frm b.zs := by unfold srvO; rw [if_pos hk, findP_C, hf]; rfl
      rw [e]
      exact clos_yes x gb bm N cs w hb hm hin wx b hf hk
  · have e : srvO cs x.kind x.id x.frm = none := if_neg hk
    rw [e]
    exact clos_no x gb bm N cs w hb hm hin wx (.inr hk)
end
end

/- Answ37:
  transfer.answers with the sender's closure.
-/
section
section
set_option linter.unusedVariables false
set_option linter.unusedSimpArgs false
set_option linter.unnecessarySimpa false
open Go.RowKit
attribute [local go_sem ↓] Go.wp_at_zero Go.wp_at_succ

theorem answersZ_snoc (cs : List ChZ) (l : List PkZ) (x : PkZ) : answersZ cs (l ++ [x]) = answersZ cs l ++ ((srvO cs x.kind x.id x.frm).map fun ys => (⟨2, x.id, x.frm, ys⟩ : PkZ)).toList := by
  unfold answersZ
  rw [List.filterMap_append]
  rw [List.filterMap_cons]
  cases srvO cs x.kind x.id x.frm <;> rfl
theorem answersZ_length (cs : List ChZ) (l : List PkZ) : (answersZ cs l).length ≤ l.length := List.length_filterMap_le _ _
/-- the sender's memory: the map's box, the map, the texts -/
structure SndIs (w : World) (gb bm N : Nat) (cs : List ChZ) : Prop where
  box : Blk w gb 94 #[.map (some bm)]
  map : MapIs w bm N (sndM cs)
  txt : ChsIn w cs
theorem SndIs.of {w w' : World} {gb bm N : Nat} {cs : List ChZ} (h : SndIs w gb bm N cs) (k : Grew w w') : SndIs w' gb bm N cs := ⟨h.box.of k, h.map.of k, h.txt.up k⟩
set_option maxRecDepth 100000 in
set_option maxHeartbeats 2000000 in
theorem answers37_any (A : Option Addr) (c gb bm N : Nat) (ql : List Pk) (cs : List ChZ) (w : World) (hr : Row w w.heap.size A (pksC ql)) (hs : SndIs w gb bm N cs) (hwf : ∀ p ∈ ql, WfI p.id) (hn : ql.length ≤ 16777215) :
    Calls Try.prog 53 #[.slice A ql.length c, .func (Fn.func 47) #[] #[.pointer (some ⟨gb, 0, none⟩)]] w (CarRes w.heap.size (answersZ cs (ql.map Pk.z)) w) := by
  have HR := Lib.hid hr
  have HS := Lib.hid hs
  have HW := Lib.hid hwf
  clear hr hs hwf
  go_enter Try.func53, Try.ntmps53
  go_wp2_with fail
  go_loopw [5, 12] (fun s v wr => ∃ (k : Nat) (rl : List Pk) (Ao : Option Addr) (co : Nat), k ≤ ql.length ∧ rl.length ≤ k ∧ v = .int .i64 k ∧ s = .slice Ao rl.length co ∧ Hid (rl.map Pk.z = answersZ cs ((ql.map Pk.z).take k)) ∧ PksIs wr w.heap.size Ao co rl ∧ Below w.heap.size w wr) (fun _ v _ => ql.length - (intOf v).toNat)
  case atStart => exact ⟨0, [], none, 0, Nat.zero_le _, Nat.zero_le _, rfl, rfl, Lib.hid rfl, ⟨World.ownsRow_nil _ _ _ _, PkOwn.nil⟩, Below.refl _ _⟩
  case round =>
    obtain ⟨k, rl, Ao, co, hk, hrk, rfl, rfl, HQ, hI, hb⟩ := hrel
    by_cases hlt : k < ql.length
    · obtain ⟨ad, hA, hbl, d0, d1, d2, d3, d4⟩ := pks_at (HR.out.below hb (Nat.le_refl _)) hlt
      have hwx := HW.out _ (List.getElem_mem hlt)
      have hsn : (ql.map Pk.z).take (k + 1) = (ql.map Pk.z).take k ++ [ql[k].z] := by
        rw [List.take_succ_eq_append_getElem (by rw [List.length_map]; exact hlt), List.getElem_map]
      generalize ql[k] = x at *
      have hsn2 : answersZ cs ((ql.map Pk.z).take (k + 1)) = answersZ cs ((ql.map Pk.z).take k) ++ ((srvO cs x.kind x.id x.frm).map fun ys => (⟨2, x.id, x.frm, ys⟩ : PkZ)).toList := by rw [hsn, answersZ_snoc]; rfl
      have HSN := Lib.hid hsn2
      clear hsn hsn2
      have ga := grew_alloc wr (.cells #[.int .i64 x.kind, .int .u64 x.id.1, .int .i64 x.id.2, .int .i64 x.frm, x.p.v] 55)
      have HC := Lib.hid (clos37_any x gb bm N cs _ ((HS.out.of hb).of ga).box ((HS.out.of hb).of ga).map ((HS.out.of hb).of ga).txt hwx)
      obtain ⟨xk, ⟨x1, x2⟩, xf, ⟨xA, xc, xz⟩⟩ := x
      simp only [Part.v] at d0 d1 d2 d3 d4 HC ga HSN
      generalize srvO cs xk (x1, x2) xf = o at *
      have HI := Lib.hid (hI.of ga)
      have HB : Hid (Below w.heap.size w (wr.alloc (.cells #[.int .i64 xk, .int .u64 x1, .int .i64 x2, .int .i64 xf, .slice xA xz.length xc] 55))) := Lib.hid (Below.trans (B := w.heap.size) hb (ga.mono hb.size))
      clear ga hI hb hwx
      subst hA
      go_wp2_with fail
      refine HC.out.mono ?_
      clear HC d0 d1 d2 d3 d4
      rintro e w3 hres
      cases o with
      | none =>
        obtain ⟨rfl, hg⟩ := hres
        unfold pk0
        have g4 := grew_alloc w3 (.cells #[.int .i64 0, .int .u64 0, .int .i64 0, .int .i64 0, .slice none 0 0] 55)
        have hI4 := (HI.out.of hg).of g4
        have hb4 : Below w.heap.size w (w3.alloc (.cells #[.int .i64 0, .int .u64 0, .int .i64 0, .int .i64 0, .slice none 0 0] 55)) := Below.trans (B := w.heap.size) HB.out ((Grew.trans hg g4).mono HB.out.size)
        have HL : Hid (rl.map Pk.z = answersZ cs ((ql.map Pk.z).take (k + 1))) := Lib.hid (by rw [HSN.out, HQ.out]; simp)
        clear hg g4
        go_wp2_with fail
        go_roundw
        case rel => exact ⟨k + 1, rl, Ao, co, by omega, by omega, by go_num, rfl, HL, hI4, hb4⟩
        case measure => simp [intOf]; omega
      | some ys =>
        obtain ⟨A', c', rfl, hown3, hg3⟩ := hres
        unfold pkV Part.v
        simp only
        have hlo : ∀ y ∈ rl, ∀ q, y.p.v.ownBlock = some q → q < (wr.alloc (.cells #[.int .i64 xk, .int .u64 x1, .int .i64 x2, .int .i64 xf, .slice xA xz.length xc] 55)).heap.size := fun y hy q hq => (HI.out.own.lt hy q hq).2
        have hs0 := HB.out.size
        generalize (wr.alloc (.cells #[.int .i64 xk, .int .u64 x1, .int .i64 x2, .int .i64 xf, .slice xA xz.length xc] 55)) = w2 at *
        have hs1 := hg3.size
        have g4 := grew_alloc w3 (.cells #[.int .i64 2, .int .u64 x1, .int .i64 x2, .int .i64 xf, .slice A' ys.length c'] 55)
        have kB := Blk.new w3 55 #[.int .i64 2, .int .u64 x1, .int .i64 x2, .int .i64 xf, .slice A' ys.length c']
        have b0 := (kB.cell 0).trans (show _ = some (.int .i64 2) from rfl)
        have b1 := (kB.cell 1).trans (show _ = some (.int .u64 x1) from rfl)
        have b2 := (kB.cell 2).trans (show _ = some (.int .i64 x2) from rfl)
        have b3 := (kB.cell 3).trans (show _ = some (.int .i64 xf) from rfl)
        have b4 := (kB.cell 4).trans (show _ = some (.slice A' ys.length c') from rfl)
        have gV := grew_alloc (w3.alloc (.cells #[.int .i64 2, .int .u64 x1, .int .i64 x2, .int .i64 xf, .slice A' ys.length c'] 55)) (.cells #[.int .i64 2, .int .u64 x1, .int .i64 x2, .int .i64 xf, .slice A' ys.length c'] 55)
        have kV := Blk.new (w3.alloc (.cells #[.int .i64 2, .int .u64 x1, .int .i64 x2, .int .i64 xf, .slice A' ys.length c'] 55)) 55 #[.int .i64 2, .int .u64 x1, .int .i64 x2, .int .i64 xf, .slice A' ys.length c']
        rw [show (w3.alloc (.cells #[.int .i64 2, .int .u64 x1, .int .i64 x2, .int .i64 xf, .slice A' ys.length c'] 55)).heap.size = w3.heap.size + 1 by simp] at kV
        have hg34 := Grew.trans g4 gV
        have hI4 := (HI.out.of hg3).of hg34
        have hown4 := own_below hown3 hg34
        have hb4 : Below w.heap.size w ((w3.alloc (.cells #[.int .i64 2, .int .u64 x1, .int .i64 x2, .int .i64 xf, .slice A' ys.length c'] 55)).alloc (.cells #[.int .i64 2, .int .u64 x1, .int .i64 x2, .int .i64 xf, .slice A' ys.length c'] 55)) := Below.trans (B := w.heap.size) HB.out ((Grew.trans hg3 hg34).mono hs0)
        have hO4 := hI4.own.snoc (x := ⟨2, (x1, x2), xf, ⟨A', c', ys⟩⟩) hlo (by omega) hown4
        have hs4 := hg34.size
        have HX := Lib.hid (show ∀ (A8 : Option Addr) (c8 : Nat) (w8 : World), w8.ownsRow w.heap.size 55 5 (.slice A8 (rl.length + 1) c8) (rl.length + 1) (pksC rl ++ pkC ⟨2, (x1, x2), xf, ⟨A', c', ys⟩⟩) → ((w3.alloc (.cells #[.int .i64 2, .int .u64 x1, .int .i64 x2, .int .i64 xf, .slice A' ys.length c'] 55)).alloc (.cells #[.int .i64 2, .int .u64 x1, .int .i64 x2, .int .i64 xf, .slice A' ys.length c'] 55)).grownBy w8 (Value.slice Ao rl.length co).ownBlock →
            PksIs w8 w.heap.size A8 c8 (rl ++ [⟨2, (x1, x2), xf, ⟨A', c', ys⟩⟩]) ∧ Below w.heap.size w w8 from fun A8 c8 w8 h1 h2 => by
          refine ⟨⟨?_, hO4.ch (Ch.of_own h2) (fun x hx q hq h => ?_)⟩, Below.trans (B := w.heap.size) hb4 (below_grown h2 (by omega) (own_lt hI4.row))⟩
          · rw [List.length_append, List.length_singleton, pksC_append, pksC_one]
            exact h1
          · rcases List.mem_append.1 hx with hx | hx
            · exact hI4.apart hx hq h
            · rw [List.mem_singleton] at hx
              subst hx
              exact own_own_ne hown4 hI4.row (by decide) q hq h)
        have hrow := hI4.row
        have HV := Lib.hid kV.row
        have HL : Hid ((rl ++ [(⟨2, (x1, x2), xf, ⟨A', c', ys⟩⟩ : Pk)]).map Pk.z = answersZ cs ((ql.map Pk.z).take (k + 1))) := Lib.hid (by rw [HSN.out, List.map_append, HQ.out]; rfl)
        clear hI4 hown3 hown4 hb4 hO4 gV kV hlo g4 kB hg34 hg3
        go_wp2_with (at_builtin; refine wpList_append_row rfl (.tmp 23) (.tmp 25) rfl w.heap.size elem_pk (by rfl) hrow _ (by rfl) (by rfl) HV.out (ones_pk ⟨2, (x1, x2), xf, ⟨A', c', ys⟩⟩) (by unfold maxLen; omega) (by omega) (by first | omega | (simp; omega)) ?_; intro A8 c8 w8 hown8 hg8 _)
        obtain ⟨hI8, hb8⟩ := HX.out A8 c8 w8 hown8 hg8
        have HI8 := Lib.hid hI8
        clear hI8 hown8 hg8 HX hrow HV
        go_roundw
        case rel => exact ⟨k + 1, rl ++ [⟨2, (x1, x2), xf, ⟨A', c', ys⟩⟩], A8, c8, by omega, by rw [List.length_append, List.length_singleton]; omega, by go_num, by rw [List.length_append]; rfl, HL, HI8.out, hb8⟩
        case measure => simp [intOf]; omega
    · obtain rfl : k = ql.length := by omega
      rw [List.take_of_length_le (by rw [List.length_map]; exact Nat.le_refl _)] at HQ
      go_wp2_with fail
      go_ret
      exact ⟨Ao, co, rl, rfl, HQ.out, hI, hb⟩
end
end

/- Steps37:
  The steps of a round: the closures of transfer.Run.
-/
section
section
set_option linter.unusedVariables false
set_option linter.unusedSimpArgs false
set_option linter.unnecessarySimpa false
open Go.RowKit
attribute [local go_sem ↓] Go.wp_at_zero Go.wp_at_succ

/-- a step puts packets into their box -/
def PutRes (gp : Nat) (zs : List PkZ) (w : World) (e : Ending) (w' : World) : Prop := ∃ (A : Option Addr) (c : Nat) (ql : List Pk), e = .returned (.tuple #[]) ∧ ql.map Pk.z = zs ∧ Blk w' gp 49 #[.slice A ql.length c] ∧ PksIs w' w.heap.size A c ql ∧ Ch (At gp) w w'
theorem PutRes.mk_ {gp c : Nat} {A : Option Addr} {ql : List Pk} {zs : List PkZ} {w w' : World} {v : Value} (hg : Blk w gp 49 #[v]) (hz : ql.map Pk.z = zs) (hI : PksIs w' w.heap.size A c ql) (hb : Grew w w') :
    PutRes gp zs w (.returned (.tuple #[])) (w'.setCell ⟨gp, 0, none⟩ (.slice A ql.length c)) := by
  have hl := hg.lt
  have k := (Ch.refl (At gp) w').set_at 0 (.slice A ql.length c)
  refine ⟨A, c, ql, rfl, hz, (hg.of hb).set_ 0 _, ⟨own_ch hI.row k (fun q hq h => ?_), hI.own.ch k (fun x hx q hq h => ?_)⟩, (Ch.of_below hb).trans k⟩
  · have h1 := own_lt hI.row q hq; have h2 : q = gp := h; omega
  · have h1 := (hI.own.lt hx q hq).1; have h2 : q = gp := h; omega
theorem askP_own (w : World) (base : Nat) (r : Rcv) (l : List IdZ) : PkOwn w base (askP r l) := by
  have h : ∀ x ∈ askP r l, x.p = ⟨none, 0, []⟩ := fun x hx => by
    unfold askP at hx
    obtain ⟨y, _, rfl⟩ := List.mem_map.1 hx
    rfl
  refine ⟨fun x hx => by rw [h x hx]; exact World.ownsRow_nil _ _ _ _, ?_⟩
  rw [List.pairwise_iff_getElem]
  intro i j hi hj hij k hk
  rw [h _ (List.getElem_mem hi)] at hk
  cases hk
set_option maxRecDepth 100000 in
set_option maxHeartbeats 1000000 in
theorem stepAsk_any {base g M : Nat} {L : RcL} {r : Rcv} (gr gp : Nat) (v : Value) (w : World) (hr : Blk w gr 45 #[.pointer (some ⟨g, 0, none⟩)]) (hp : Blk w gp 49 #[v]) (h : RcvIs w base g M L r) (ok : RcOk r) :
    Calls Try.prog 49 #[.pointer (some ⟨gr, 0, none⟩), .pointer (some ⟨gp, 0, none⟩)] w (PutRes gp (askZ r) w) := by
  have r0 := (hr.cell 0).trans (show _ = some (.pointer (some ⟨g, 0, none⟩)) from rfl)
  obtain ⟨_, _, _, _, c4, _⟩ := h.cells
  have HH := Lib.hid h
  have OK := Lib.hid ok
  have HP := Lib.hid hp
  have hml := ok.len.2.2.1
  clear hr hp h ok
  go_enter Try.func49, Try.ntmps49
  go_upto_region 0 with (fail)
  refine wp_region_g 6 (by kernel_rfl) ?_
  refine AllC.head 0 6 (fuel := 2) (by first | exact fun h k => Grew.trans h k | exact fun h k => cls_grew h k) (grew_drew _) (by rfl) (by kernel_rfl) ?_
  simp only [List.take_succ_cons, List.take_zero, List.drop_succ_cons, List.drop_zero]
  repeat (first
    | (refine HeadC.val (by rfl) ?_
       apply Exists.intro
       refine ⟨fun w' hw' => ?_, ?_⟩
       · (have hf_0 := cell_up hw' r0; have hf_1 := cell_up hw' c4; (go_simp) <;> (try go_ints) <;> with_reducible rfl)
       try simp only [Act.put, List.setIfInBounds_toArray, List.set_cons_zero, List.set_cons_succ])
    | (refine HeadC.shut (by rfl) ?_
       try simp only [Act.put, List.setIfInBounds_toArray, List.set_cons_zero, List.set_cons_succ]))
  refine HeadC.nil ?_
  refine AllC.tail 6 (by rfl) (by kernel_rfl) ?_
  intro wt hwt
  simp only [List.drop_succ_cons, List.drop_zero]
  have hg1 : Grew w wt := (grew_drew w).trans hwt
  have HA := ask37_any (r.miss.length : Int) wt (HH.out.of hg1) OK.out
  rw [askL_all (r := r) (most := (r.miss.length : Int)) (Int.le_refl _)] at HA
  have HA' := Lib.hid HA
  have hs1 := hg1.size
  have HG := Lib.hid hg1
  clear HA hg1 hwt r0 c4
  go_wp2_with fail
  refine HA'.out.mono ?_
  clear HA'
  rintro e w2 ⟨A, c, rfl, hown, hg⟩
  have hg2 := HG.out.trans hg
  have f0 := (HP.out.of hg2).frozen 0
  have p0 := (HP.out.of hg2).cell 0
  simp only [List.getElem?_toArray, List.getElem?_cons_zero] at p0
  have HR := Lib.hid (PutRes.mk_ HP.out (askZ_eq r) (⟨own_mono hown hs1, askP_own w2 w.heap.size r r.miss⟩ : PksIs w2 w.heap.size A c (askP r r.miss)) hg2)
  clear hown hg hg2
  go_wp2_with fail
  refine bodyPost_ret (v := .tuple #[]) ?_ rfl HR.out
  simp [results, Try.results49, go_sem]
set_option maxRecDepth 100000 in
set_option maxHeartbeats 1000000 in
theorem stepCarry_any (gp gf gn n fc c : Nat) (AF A : Option Addr) (fl : List Fts) (ql : List Pk) (w : World) (hp : Blk w gp 49 #[.slice A ql.length c]) (hf : Blk w gf 36 #[.slice AF fl.length fc]) (hn : Blk w gn 3 #[.int .i64 n])
    (hr : Row w w.heap.size A (pksC ql)) (hin : PksIn w ql) (hrf : Row w w.heap.size AF (fl.map Fts.v)) (hok : Row w w.heap.size (ofP fl (2 * n)).A (ftsC (ofP fl (2 * n)).fs) ∧ ∀ f ∈ (ofP fl (2 * n)).fs, FtOk f) (hl : ql.length + (ofP fl (2 * n)).fs.length ≤ 16777215) (hfl : fl.length ≤ 9223372036854775807) (hn2 : n ≤ 1024) :
    Calls Try.prog 50 #[.pointer (some ⟨gp, 0, none⟩), .pointer (some ⟨gf, 0, none⟩), .pointer (some ⟨gn, 0, none⟩)] w (PutRes gp (carryZ (ql.map Pk.z) (ofP fl (2 * n)).fs) w) := by
  have p0 := (hp.cell 0).trans (show _ = some (.slice A ql.length c) from rfl)
  have q0 := (hf.cell 0).trans (show _ = some (.slice AF fl.length fc) from rfl)
  have n0 := (hn.cell 0).trans (show _ = some (.int .i64 n) from rfl)
  have HP := Lib.hid hp
  have HC := Lib.hid (fun W (hg : Grew w W) => carry37_any A c ql (ofP fl (2 * n)).A (ofP fl (2 * n)).cap (ofP fl (2 * n)).fs W ((hr.up hg (Nat.le_refl _)).more hg.size) (hin.up hg) ((hok.1.up hg (Nat.le_refl _)).more hg.size) hok.2 hl)
  have HF := Lib.hid (fun W (hg : Grew w W) => grew_same (faultsOf_any AF fc W.heap.size (2 * n) fl W ((hrf.up hg (Nat.le_refl _)).more hg.size) hfl))
  have e2 : ((2 * n : Nat) : Int) = 2 * (n : Int) := by omega
  simp only [e2] at HF
  clear hp hf hn hr hin hrf hok hl e2
  generalize ofP fl (2 * n) = P at *
  go_enter Try.func50, Try.ntmps50
  go_upto_region 0 with (fail)
  refine wp_region_g 5 (by kernel_rfl) ?_
  refine AllC.head 0 5 (fuel := 2) (by first | exact fun h k => Grew.trans h k | exact fun h k => cls_grew h k) (grew_drew _) (by rfl) (by kernel_rfl) ?_
  simp only [List.take_succ_cons, List.take_zero, List.drop_succ_cons, List.drop_zero]
  repeat (first
    | (refine HeadC.val (by rfl) ?_
       apply Exists.intro
       refine ⟨fun w' hw' => ?_, ?_⟩
       · (have hf_0 := cell_up hw' p0; have hf_1 := cell_up hw' q0; have hf_2 := cell_up hw' n0; (go_simp) <;> (try go_ints) <;> with_reducible rfl)
       try simp only [Act.put, List.setIfInBounds_toArray, List.set_cons_zero, List.set_cons_succ])
    | (refine HeadC.call (by rfl) ?_
       apply Exists.intro; apply Exists.intro
       refine ⟨fun w' hw' => ?_, ?_⟩
       · (have hf_0 := cell_up hw' p0; have hf_1 := cell_up hw' q0; have hf_2 := cell_up hw' n0; (go_simp) <;> first | (refine ⟨?_, ?_⟩ <;> with_reducible rfl) | with_reducible rfl)
       apply Exists.intro
       refine ⟨fun w' hw' => ?_, ?_⟩
       · (first | exact HF.out w' hw')
       try simp only [Act.put, List.setIfInBounds_toArray, List.set_cons_zero, List.set_cons_succ])
    | (refine HeadC.shut (by rfl) ?_
       try simp only [Act.put, List.setIfInBounds_toArray, List.set_cons_zero, List.set_cons_succ]))
  refine HeadC.nil ?_
  refine AllC.tail 5 (by rfl) (by kernel_rfl) ?_
  intro wt hwt
  simp only [List.drop_succ_cons, List.drop_zero]
  have hg1 : Grew w wt := (grew_drew w).trans hwt
  have HA' := Lib.hid (HC.out wt hg1)
  have hs1 := hg1.size
  have HG := Lib.hid hg1
  clear hg1 hwt p0 q0 n0 HC HF
  go_wp2_with fail
  refine HA'.out.mono ?_
  clear HA'
  rintro e w2 ⟨A2, c2, q2, rfl, hz, hI, hg⟩
  have hg2 := HG.out.trans hg
  have f0 := (HP.out.of hg2).frozen 0
  have p0 := (HP.out.of hg2).cell 0
  simp only [List.getElem?_toArray, List.getElem?_cons_zero] at p0
  have HR := Lib.hid (PutRes.mk_ HP.out hz (⟨own_mono hI.row hs1, hI.own.mono hs1⟩ : PksIs w2 w.heap.size A2 c2 q2) hg2)
  clear hI hg hg2 hz
  go_wp2_with fail
  refine bodyPost_ret (v := .tuple #[]) ?_ rfl HR.out
  simp [results, Try.results50, go_sem]
set_option maxRecDepth 100000 in
set_option maxHeartbeats 1000000 in
theorem stepBack_any (gp gf gn n fc c : Nat) (AF A : Option Addr) (fl : List Fts) (ql : List Pk) (w : World) (hp : Blk w gp 49 #[.slice A ql.length c]) (hf : Blk w gf 36 #[.slice AF fl.length fc]) (hn : Blk w gn 3 #[.int .i64 n])
    (hr : Row w w.heap.size A (pksC ql)) (hin : PksIn w ql) (hrf : Row w w.heap.size AF (fl.map Fts.v)) (hok : Row w w.heap.size (ofP fl (2 * n + 1)).A (ftsC (ofP fl (2 * n + 1)).fs) ∧ ∀ f ∈ (ofP fl (2 * n + 1)).fs, FtOk f) (hl : ql.length + (ofP fl (2 * n + 1)).fs.length ≤ 16777215) (hfl : fl.length ≤ 9223372036854775807) (hn2 : n ≤ 1024) :
    Calls Try.prog 54 #[.pointer (some ⟨gp, 0, none⟩), .pointer (some ⟨gf, 0, none⟩), .pointer (some ⟨gn, 0, none⟩)] w (PutRes gp (carryZ (ql.map Pk.z) (ofP fl (2 * n + 1)).fs) w) := by
  have p0 := (hp.cell 0).trans (show _ = some (.slice A ql.length c) from rfl)
  have q0 := (hf.cell 0).trans (show _ = some (.slice AF fl.length fc) from rfl)
  have n0 := (hn.cell 0).trans (show _ = some (.int .i64 n) from rfl)
  have HP := Lib.hid hp
  have HC := Lib.hid (fun W (hg : Grew w W) => carry37_any A c ql (ofP fl (2 * n + 1)).A (ofP fl (2 * n + 1)).cap (ofP fl (2 * n + 1)).fs W ((hr.up hg (Nat.le_refl _)).more hg.size) (hin.up hg) ((hok.1.up hg (Nat.le_refl _)).more hg.size) hok.2 hl)
  have HF := Lib.hid (fun W (hg : Grew w W) => grew_same (faultsOf_any AF fc W.heap.size (2 * n + 1) fl W ((hrf.up hg (Nat.le_refl _)).more hg.size) hfl))
  have e2 : ((2 * n + 1 : Nat) : Int) = 2 * (n : Int) + 1 := by omega
  simp only [e2] at HF
  clear hp hf hn hr hin hrf hok hl e2
  generalize ofP fl (2 * n + 1) = P at *
  go_enter Try.func54, Try.ntmps54
  go_upto_region 0 with (fail)
  refine wp_region_g 6 (by kernel_rfl) ?_
  refine AllC.head 0 6 (fuel := 2) (by first | exact fun h k => Grew.trans h k | exact fun h k => cls_grew h k) (grew_drew _) (by rfl) (by kernel_rfl) ?_
  simp only [List.take_succ_cons, List.take_zero, List.drop_succ_cons, List.drop_zero]
  repeat (first
    | (refine HeadC.val (by rfl) ?_
       apply Exists.intro
       refine ⟨fun w' hw' => ?_, ?_⟩
       · (have hf_0 := cell_up hw' p0; have hf_1 := cell_up hw' q0; have hf_2 := cell_up hw' n0; (go_simp) <;> (try go_ints) <;> with_reducible rfl)
       try simp only [Act.put, List.setIfInBounds_toArray, List.set_cons_zero, List.set_cons_succ])
    | (refine HeadC.call (by rfl) ?_
       apply Exists.intro; apply Exists.intro
       refine ⟨fun w' hw' => ?_, ?_⟩
       · (have hf_0 := cell_up hw' p0; have hf_1 := cell_up hw' q0; have hf_2 := cell_up hw' n0; (go_simp) <;> first | (refine ⟨?_, ?_⟩ <;> with_reducible rfl) | with_reducible rfl)
       apply Exists.intro
       refine ⟨fun w' hw' => ?_, ?_⟩
       · (first | exact HF.out w' hw')
       try simp only [Act.put, List.setIfInBounds_toArray, List.set_cons_zero, List.set_cons_succ])
    | (refine HeadC.shut (by rfl) ?_
       try simp only [Act.put, List.setIfInBounds_toArray, List.set_cons_zero, List.set_cons_succ]))
  refine HeadC.nil ?_
  refine AllC.tail 6 (by rfl) (by kernel_rfl) ?_
  intro wt hwt
  simp only [List.drop_succ_cons, List.drop_zero]
  have hg1 : Grew w wt := (grew_drew w).trans hwt
  have HA' := Lib.hid (HC.out wt hg1)
  have hs1 := hg1.size
  have HG := Lib.hid hg1
  clear hg1 hwt p0 q0 n0 HC HF
  go_wp2_with fail
  refine HA'.out.mono ?_
  clear HA'
  rintro e w2 ⟨A2, c2, q2, rfl, hz, hI, hg⟩
  have hg2 := HG.out.trans hg
  have f0 := (HP.out.of hg2).frozen 0
  have p0 := (HP.out.of hg2).cell 0
  simp only [List.getElem?_toArray, List.getElem?_cons_zero] at p0
  have HR := Lib.hid (PutRes.mk_ HP.out hz (⟨own_mono hI.row hs1, hI.own.mono hs1⟩ : PksIs w2 w.heap.size A2 c2 q2) hg2)
  clear hI hg hg2 hz
  go_wp2_with fail
  refine bodyPost_ret (v := .tuple #[]) ?_ rfl HR.out
  simp [results, Try.results54, go_sem]
set_option maxRecDepth 100000 in
set_option maxHeartbeats 1000000 in
theorem stepAnswer_any (gp gs c gb bm N : Nat) (A : Option Addr) (ql : List Pk) (cs : List ChZ) (w : World) (hp : Blk w gp 49 #[.slice A ql.length c]) (hs : Blk w gs 96 #[.func (Fn.func 47) #[] #[.pointer (some ⟨gb, 0, none⟩)]])
    (hr : Row w w.heap.size A (pksC ql)) (hsn : SndIs w gb bm N cs) (hwf : ∀ p ∈ ql, WfI p.id) (hn : ql.length ≤ 16777215) :
    Calls Try.prog 52 #[.pointer (some ⟨gp, 0, none⟩), .pointer (some ⟨gs, 0, none⟩)] w (PutRes gp (answersZ cs (ql.map Pk.z)) w) := by
  have p0 := (hp.cell 0).trans (show _ = some (.slice A ql.length c) from rfl)
  have s0 := (hs.cell 0).trans (show _ = some (.func (Fn.func 47) #[] #[.pointer (some ⟨gb, 0, none⟩)]) from rfl)
  have HP := Lib.hid hp
  have HA' := Lib.hid (answers37_any A c gb bm N ql cs w hr hsn hwf hn)
  clear hp hs hr hsn
  go_enter Try.func52, Try.ntmps52
  go_wp2_with fail
  refine HA'.out.mono ?_
  clear HA' p0 s0
  rintro e w2 ⟨A2, c2, q2, rfl, hz, hI, hg⟩
  have f0 := (HP.out.of hg).frozen 0
  have p0 := (HP.out.of hg).cell 0
  simp only [List.getElem?_toArray, List.getElem?_cons_zero] at p0
  have HR := Lib.hid (PutRes.mk_ HP.out hz hI hg)
  clear hI hg hz
  go_wp2_with fail
  refine bodyPost_ret (v := .tuple #[]) ?_ rfl HR.out
  simp [results, Try.results52, go_sem]
set_option maxRecDepth 100000 in
set_option maxHeartbeats 1000000 in
theorem stepTake_any {base g M : Nat} {L : RcL} {r : Rcv} (gr gp bp c : Nat) (A : Option Addr) (ql : List Pk) (w : World) (hr : Blk w gr 45 #[.pointer (some ⟨g, 0, none⟩)]) (hpb : Blk w gp 49 #[.slice A ql.length c])
    (h : RcvIs w base g M L r) (ok : RcOk r) (hp : PksIs w bp A c ql) (hF : ∀ k, L.F r g k → k < bp)
    (hwf : ∀ p ∈ ql, WfI p.id ∧ Byt p.p.zs ∧ p.p.zs.length ≤ 4611686018427387904) (hM : M + 2 * ql.length ≤ 1125899906842624) (hbase : base ≤ w.heap.size) (hbp : bp ≤ w.heap.size) :
    Calls Try.prog 55 #[.pointer (some ⟨gr, 0, none⟩), .pointer (some ⟨gp, 0, none⟩)] w (TakeAllRes base g M ql.length L r (ql.map Pk.z) w) := by
  have r0 := (hr.cell 0).trans (show _ = some (.pointer (some ⟨g, 0, none⟩)) from rfl)
  have p0 := (hpb.cell 0).trans (show _ = some (.slice A ql.length c) from rfl)
  have HT := Lib.hid (takeAll37_any A c bp ql w h ok hp hF hwf hM hbase hbp)
  clear hr hpb h ok hp hF hwf
  go_enter Try.func55, Try.ntmps55
  go_wp2_with fail
  refine HT.out.mono ?_
  clear HT r0 p0
  rintro e w2 ⟨L', rfl, S⟩
  have HS := Lib.hid S
  clear S
  go_wp2_with fail
  refine bodyPost_ret (v := .tuple #[]) ?_ rfl ⟨L', rfl, HS.out⟩
  simp [results, Try.results55, go_sem]
end
end

/- Run37b:
  What transfer.Run holds besides the receiver.
-/
section
section
set_option linter.unusedVariables false
set_option linter.unusedSimpArgs false
set_option linter.unnecessarySimpa false
open Go.RowKit

theorem findP_snoc (cs : List ChZ) (k : Nat) (h : k < cs.length) (x : IdZ) : findP (cs.take (k + 1)) x = (findP (cs.take k) x).or (if cs[k].id = x then some cs[k].p else none) := by
  unfold findP
  rw [List.take_succ_eq_append_getElem h, List.find?_append]
  cases (cs.take k).find? (fun c => decide (c.id = x)) with
  | some c => rfl
  | none =>
    simp only [Option.map_none, Option.none_or, List.find?_cons, List.find?_nil]
    by_cases he : cs[k].id = x
    · rw [if_pos he]; simp [he]
    · rw [if_neg he]; simp [he]
theorem sndM_old {cs : List ChZ} {k : Nat} (h : k < cs.length) (hs : (sndM (cs.take k) cs[k].id).isSome = true) (x : IdZ) : sndM (cs.take k) x = sndM (cs.take (k + 1)) x := by
  unfold sndM at hs ⊢
  rw [findP_snoc cs k h]
  by_cases he : cs[k].id = x
  · rw [if_pos he]
    rw [he] at hs
    cases hf : findP (cs.take k) x with
    | none => rw [hf] at hs; cases hs
    | some p => rfl
  · rw [if_neg he]
    cases findP (cs.take k) x <;> rfl
theorem sndM_new {cs : List ChZ} {k : Nat} (h : k < cs.length) (hs : sndM (cs.take k) cs[k].id = none) (x : IdZ) : updM (sndM (cs.take k)) cs[k].id cs[k].p.v x = sndM (cs.take (k + 1)) x := by
  unfold updM
  unfold sndM at hs ⊢
  rw [findP_snoc cs k h]
  by_cases he : x = cs[k].id
  · rw [if_pos he, if_pos he.symm]
    rw [← he] at hs
    cases hf : findP (cs.take k) x with
    | none => rfl
    | some p => rw [hf] at hs; cases hs
  · rw [if_neg he, if_neg (fun e => he e.symm)]
    cases findP (cs.take k) x <;> rfl
section
variable {w w' : World} {base g M : Nat} {L : RcL} {r : Rcv} {gx : Nat} {t : TypeId} {cs : Array Value}
/-- a block of another kind is none of the receiver's -/
theorem RcvIs.notF (h : RcvIs w base g M L r) (hB : Blk w gx t cs) (h1 : t ≠ 98) (h2 : t ≠ 53) (h3 : t ≠ 5) : ¬ L.F r g gx := by
  rintro (rfl | rfl | rfl | hk | hk | ⟨x, hx, hk⟩)
  · exact hB.ne_ h.blk h1 rfl
  · exact h.mc.ne_blk hB rfl
  · exact h.mp.ne_blk hB rfl
  · exact own_blk_ne h.miss hB (fun e => h2 e.symm) hk
  · exact own_blk_ne h.recv hB (fun e => h2 e.symm) hk
  · exact own_blk_ne (h.pref x hx) hB (fun e => h3 e.symm) hk
/-- .. and what is written there does not touch it -/
theorem RcvIs.chB (h : RcvIs w base g M L r) (k : Ch (At gx) w w') (hB : Blk w gx t cs) (h1 : t ≠ 98) (h2 : t ≠ 53) (h3 : t ≠ 5) : RcvIs w' base g M L r where
  blk := h.blk.ch k (fun e => hB.ne_ h.blk h1 (by have e2 : g = gx := e; exact e2.symm))
  ids := own_ch h.ids k (fun i hi e => own_blk_ne h.ids hB (fun e => h2 e.symm) (by have e2 : i = gx := e; rw [← e2]; exact hi))
  mc := h.mc.ch k (fun e => h.mc.ne_blk hB e)
  mp := h.mp.ch k (fun e => h.mp.ne_blk hB e)
  miss := own_ch h.miss k (fun i hi e => own_blk_ne h.miss hB (fun e => h2 e.symm) (by have e2 : i = gx := e; rw [← e2]; exact hi))
  recv := own_ch h.recv k (fun i hi e => own_blk_ne h.recv hB (fun e => h2 e.symm) (by have e2 : i = gx := e; rw [← e2]; exact hi))
  comp := fun x zs hx => own_ch (h.comp x zs hx) k (fun i hi e => own_blk_ne (h.comp x zs hx) hB (fun e => h3 e.symm) (by have e2 : i = gx := e; rw [← e2]; exact hi))
  pref := fun x hx => own_ch (h.pref x hx) k (fun i hi e => own_blk_ne (h.pref x hx) hB (fun e => h3 e.symm) (by have e2 : i = gx := e; rw [← e2]; exact hi))
  bne := h.bne
  d1 := h.d1
  d2 := h.d2
  d3 := h.d3
  d4 := h.d4
  lo := h.lo
/-- .. nor what is written to another's map -/
theorem RcvIs.chM {N : Nat} {f : IdZ → Option Value} (h : RcvIs w base g M L r) (k : Ch (At gx) w w') (hM : MapIs w gx N f) (hF : ¬ L.F r g gx) : RcvIs w' base g M L r where
  blk := h.blk.ch k (fun e => hF (.inl (by have e2 : g = gx := e; exact e2.symm)))
  ids := own_ch h.ids k (fun i hi e => hM.ne_own h.ids (by have e2 : i = gx := e; rw [← e2]; exact hi))
  mc := h.mc.ch k (fun e => hF (.inr (.inl (by have e2 : L.bc = gx := e; exact e2.symm))))
  mp := h.mp.ch k (fun e => hF (.inr (.inr (.inl (by have e2 : L.bp = gx := e; exact e2.symm)))))
  miss := own_ch h.miss k (fun i hi e => hM.ne_own h.miss (by have e2 : i = gx := e; rw [← e2]; exact hi))
  recv := own_ch h.recv k (fun i hi e => hM.ne_own h.recv (by have e2 : i = gx := e; rw [← e2]; exact hi))
  comp := fun x zs hx => own_ch (h.comp x zs hx) k (fun i hi e => hM.ne_own (h.comp x zs hx) (by have e2 : i = gx := e; rw [← e2]; exact hi))
  pref := fun x hx => own_ch (h.pref x hx) k (fun i hi e => hM.ne_own (h.pref x hx) (by have e2 : i = gx := e; rw [← e2]; exact hi))
  bne := h.bne
  d1 := h.d1
  d2 := h.d2
  d3 := h.d3
  d4 := h.d4
  lo := h.lo
end
/-- where the boxes lie -/
structure RunP where
  gR : Nat
  gF : Nat
  gN : Nat
  gS : Nat
  gC : Nat
  gP : Nat
  gT : Nat
  g : Nat
  bm : Nat
  N : Nat
/-- the boxes of transfer.Run in round n -/
structure RunIs (w : World) (B : Nat) (P : RunP) (cs : List ChZ) (vf : Value) (n : Nat) : Prop where
  rb : Blk w P.gR 45 #[.pointer (some ⟨P.g, 0, none⟩)]
  fb : Blk w P.gF 36 #[vf]
  nb : Blk w P.gN 3 #[.int .i64 n]
  sb : Blk w P.gS 96 #[.func (Fn.func 47) #[] #[.pointer (some ⟨P.gC, 0, none⟩)]]
  cb : Blk w P.gC 94 #[.map (some P.bm)]
  mp : MapIs w P.bm P.N (sndM cs)
  tb : Blk w P.gT 1 #[.func (Fn.func 49) #[] #[.pointer (some ⟨P.gR, 0, none⟩), .pointer (some ⟨P.gP, 0, none⟩)],
    .func (Fn.func 50) #[] #[.pointer (some ⟨P.gP, 0, none⟩), .pointer (some ⟨P.gF, 0, none⟩), .pointer (some ⟨P.gN, 0, none⟩)],
    .func (Fn.func 52) #[] #[.pointer (some ⟨P.gP, 0, none⟩), .pointer (some ⟨P.gS, 0, none⟩)],
    .func (Fn.func 54) #[] #[.pointer (some ⟨P.gP, 0, none⟩), .pointer (some ⟨P.gF, 0, none⟩), .pointer (some ⟨P.gN, 0, none⟩)],
    .func (Fn.func 55) #[] #[.pointer (some ⟨P.gR, 0, none⟩), .pointer (some ⟨P.gP, 0, none⟩)]]
  bm : P.bm ≠ P.gP
section
variable {w w' : World} {B : Nat} {P : RunP} {cs : List ChZ} {vf v : Value} {n : Nat} {S : Nat → Prop}
theorem RunIs.ch (h : RunIs w B P cs vf n) (k : Ch S w w') (hS : ∀ gx (t : TypeId) (vs : Array Value), Blk w gx t vs → t = 45 ∨ t = 36 ∨ t = 3 ∨ t = 96 ∨ t = 94 ∨ t = 1 → ¬ S gx) (hb : ¬ S P.bm) : RunIs w' B P cs vf n where
  rb := h.rb.ch k (hS _ _ _ h.rb (.inl rfl))
  fb := h.fb.ch k (hS _ _ _ h.fb (.inr (.inl rfl)))
  nb := h.nb.ch k (hS _ _ _ h.nb (.inr (.inr (.inl rfl))))
  sb := h.sb.ch k (hS _ _ _ h.sb (.inr (.inr (.inr (.inl rfl)))))
  cb := h.cb.ch k (hS _ _ _ h.cb (.inr (.inr (.inr (.inr (.inl rfl))))))
  mp := h.mp.ch k hb
  tb := h.tb.ch k (hS _ _ _ h.tb (.inr (.inr (.inr (.inr (.inr rfl))))))
  bm := h.bm
theorem RunIs.of (h : RunIs w B P cs vf n) (k : Grew w w') : RunIs w' B P cs vf n := h.ch (S := NoB) (Ch.of_below k) (fun _ _ _ _ _ h => h) (fun h => h)
/-- packets are put into their box -/
theorem RunIs.put (h : RunIs w B P cs vf n) (hP : Blk w P.gP 49 #[v]) (k : Ch (At P.gP) w w') : RunIs w' B P cs vf n :=
  h.ch k (fun gx t vs hB ht e => by
    have e2 : gx = P.gP := e
    refine hB.ne_ hP ?_ e2
    rcases ht with rfl | rfl | rfl | rfl | rfl | rfl <;> decide) (fun e => h.bm e)
/-- the receiver takes packets -/
theorem RunIs.took {base M : Nat} {L : RcL} {r : Rcv} (h : RunIs w B P cs vf n) (hR : RcvIs w base P.g M L r) (hb : ¬ L.F r P.g P.bm) (k : Ch (L.F r P.g) w w') : RunIs w' B P cs vf n :=
  h.ch k (fun gx t vs hB ht => by
    refine hR.notF hB ?_ ?_ ?_
    all_goals (rcases ht with rfl | rfl | rfl | rfl | rfl | rfl <;> decide)) hb
/-- the next round -/
theorem RunIs.next (h : RunIs w B P cs vf n) : RunIs (w.setCell ⟨P.gN, 0, none⟩ (.int .i64 (n + 1 : Nat))) B P cs vf (n + 1) := by
  have k := (Ch.refl (At P.gN) w).set_at 0 (.int .i64 (n + 1 : Nat))
  have hn : ∀ {gx : Nat} {t : TypeId} {vs : Array Value}, Blk w gx t vs → t ≠ 3 → ¬ At P.gN gx := fun hB ht e => hB.ne_ h.nb ht e
  exact ⟨h.rb.ch k (hn h.rb (by decide)), h.fb.ch k (hn h.fb (by decide)), h.nb.set_ 0 _, h.sb.ch k (hn h.sb (by decide)), h.cb.ch k (hn h.cb (by decide)), h.mp.ch k (fun e => h.mp.ne_blk h.nb e), h.tb.ch k (hn h.tb (by decide)), h.bm⟩
end
theorem run_store_func {P : Program} (W : World) (fn : Fn) (a b : Array Value) (t : TypeId) : (store ⟨W.heap.size, 0, none⟩ (.func fn a b)).run P (W.alloc (.cells #[.nilFunc] t)) = .ok () (W.alloc (.cells #[.func fn a b] t)) := by
  have h := Blk.new W t #[.nilFunc]
  rw [run_store P _ _ _ _ rfl, h.cell 0, h.frozen 0]
  simp only [World.setCell_alloc_new]
  rfl
end
end

/- Run37c:
  What is so of the packets of a round (plain).
-/
section
section
set_option linter.unusedVariables false
set_option linter.unusedSimpArgs false
set_option linter.unnecessarySimpa false
open Go.RowKit

def PkzOk (p : PkZ) : Prop := WfI p.id ∧ Byt p.zs ∧ p.zs.length ≤ 1024
theorem flipZ_byt {zs : List Int} (h : Byt zs) (b : Nat) : Byt (flipZ zs b) := by
  unfold flipZ
  intro z hz
  rcases List.mem_or_eq_of_mem_set hz with hz | rfl
  · exact h z hz
  · unfold flipV
    exact ⟨bits_lo_u8 _ _ _, bits_hi_u8 _ _ _⟩
theorem strike_ok {l : List PkZ} {f : FtZ} (h : ∀ p ∈ l, PkzOk p) : ∀ p ∈ strike l f, PkzOk p := fun p hp => by
  rcases strike_mem hp with hp | ⟨x, hx, b, _, _, _, rfl⟩
  · exact h p hp
  · obtain ⟨h1, h2, h3⟩ := h x hx
    exact ⟨h1, flipZ_byt h2 b, by show (flipZ x.zs b).length ≤ 1024; rw [flipZ_length]; exact h3⟩
theorem carryZ_ok {l : List PkZ} {fs : List FtZ} (h : ∀ p ∈ l, PkzOk p) : ∀ p ∈ carryZ l fs, PkzOk p := by
  induction fs generalizing l with
  | nil => exact h
  | cons f fs ih => exact ih (l := strike l f) (strike_ok h)
theorem askZ_ok {r : Rcv} (ok : RcOk r) : ∀ p ∈ askZ r, PkzOk p := fun p hp => by
  unfold askZ at hp
  obtain ⟨x, hx, rfl⟩ := List.mem_map.1 hp
  exact ⟨ok.wf x (ok.sub x hx), fun z hz => (by cases hz), Nat.zero_le _⟩
theorem answersZ_ok {cs : List ChZ} (hc : ∀ c ∈ cs, WfI c.id ∧ Byt c.p.zs) {l : List PkZ} (h : ∀ p ∈ l, PkzOk p) : ∀ p ∈ answersZ cs l, PkzOk p := fun p hp => by
  unfold answersZ at hp
  obtain ⟨q, hq, hs⟩ := List.mem_filterMap.1 hp
  cases hv : srvO cs q.kind q.id q.frm with
  | none => rw [hv] at hs; cases hs
  | some ys =>
    rw [hv] at hs
    injection hs with hs
    subst hs
    unfold srvO at hv
    split at hv
    · rw [findP_C] at hv
      cases hf : findP cs q.id with
      | none => rw [hf] at hv; cases hv
      | some b =>
        rw [hf] at hv
        obtain ⟨c, hc', _, rfl⟩ := findP_mem hf
        simp only [Option.map_some, Option.bind_some] at hv
        unfold ansO at hv
        split at hv
        · cases hv
        · injection hv with hv
          subst hv
          refine ⟨(h q hq).1, ansZ_byt (hc c hc').2 _, ?_⟩
          show (ansZ _ _).length ≤ 1024
          rw [ansZ_len]; omega
    · cases hv
/-- the packets behind step i of a round -/
def zsAt (cs : List ChZ) (r : Rcv) (f1 f2 : List FtZ) : Nat → List PkZ
  | 0 => []
  | 1 => askZ r
  | 2 => carryZ (askZ r) f1
  | 3 => answersZ cs (carryZ (askZ r) f1)
  | _ + 4 => carryZ (answersZ cs (carryZ (askZ r) f1)) f2
theorem zsAt_ok {cs : List ChZ} {r : Rcv} {f1 f2 : List FtZ} (ok : RcOk r) (hc : ∀ c ∈ cs, WfI c.id ∧ Byt c.p.zs) (i : Nat) : ∀ p ∈ zsAt cs r f1 f2 i, PkzOk p := by
  match i with
  | 0 => intro p hp; cases hp
  | 1 => exact askZ_ok ok
  | 2 => exact carryZ_ok (askZ_ok ok)
  | 3 => exact answersZ_ok hc (carryZ_ok (askZ_ok ok))
  | _ + 4 => exact carryZ_ok (answersZ_ok hc (carryZ_ok (askZ_ok ok)))
theorem zsAt_length {cs : List ChZ} {r : Rcv} {f1 f2 : List FtZ} (ok : RcOk r) (h1 : f1.length ≤ 1000) (h2 : f2.length ≤ 1000) (i : Nat) : (zsAt cs r f1 f2 i).length ≤ 4000 := by
  have a1 : (askZ r).length ≤ 1024 := by unfold askZ; rw [List.length_map]; exact ok.len.2.2.1
  have a2 := carryZ_length (askZ r) f1
  have a3 := answersZ_length cs (carryZ (askZ r) f1)
  have a4 := carryZ_length (answersZ cs (carryZ (askZ r) f1)) f2
  match i with
  | 0 => exact Nat.zero_le _
  | 1 => show (askZ r).length ≤ _; omega
  | 2 => show (carryZ (askZ r) f1).length ≤ _; omega
  | 3 => show (answersZ cs (carryZ (askZ r) f1)).length ≤ _; omega
  | _ + 4 => show (carryZ (answersZ cs (carryZ (askZ r) f1)) f2).length ≤ _; omega
theorem mem_z {ql : List Pk} {zs : List PkZ} (h : ql.map Pk.z = zs) (hz : ∀ p ∈ zs, PkzOk p) : ∀ p ∈ ql, WfI p.id ∧ Byt p.p.zs ∧ p.p.zs.length ≤ 1024 := fun p hp => by
  have h1 : p.z ∈ ql.map Pk.z := List.mem_map_of_mem hp
  rw [h] at h1
  exact hz _ h1
theorem len_z {ql : List Pk} {zs : List PkZ} (h : ql.map Pk.z = zs) : ql.length = zs.length := by rw [← h, List.length_map]
theorem PksIs.in_ {w : World} {base c : Nat} {A : Option Addr} {ql : List Pk} (h : PksIs w base A c ql) (hz : ∀ p ∈ ql, WfI p.id ∧ Byt p.p.zs ∧ p.p.zs.length ≤ 1024) : PksIn w ql := fun x hx => ⟨own_row (h.own.own x hx), by have := (hz x hx).2.2; omega⟩
theorem ofF_mem {fs : List (List FtZ)} {k : Nat} {Q : List FtZ → Prop} (h0 : Q []) (h : ∀ f ∈ fs, Q f) : Q (ofF fs k) := by
  unfold ofF
  rw [List.getD_eq_getElem?_getD]
  rcases Nat.lt_or_ge k fs.length with hk | hk
  · rw [List.getElem?_eq_getElem hk]; exact h _ (List.getElem_mem hk)
  · rw [List.getElem?_eq_none hk]; exact h0
theorem ofP_mem {fl : List Fts} {k : Nat} {Q : Fts → Prop} (h0 : Q ftNo) (h : ∀ f ∈ fl, Q f) : Q (ofP fl k) := by
  unfold ofP
  rw [List.getD_eq_getElem?_getD]
  rcases Nat.lt_or_ge k fl.length with hk | hk
  · rw [List.getElem?_eq_getElem hk]; exact h _ (List.getElem_mem hk)
  · rw [List.getElem?_eq_none hk]; exact h0
theorem roundR_zs (cs : List ChZ) (r : Rcv) (f1 f2 : List FtZ) : roundR cs r f1 f2 = takeAllR r (zsAt cs r f1 f2 4) := rfl
def cellInt (w : World) (p : Addr) : Nat := match w.cell? p with | some (.int _ n) => n.toNat | _ => 0
theorem cellInt_of {w : World} {p : Addr} {k : IntKind} {n : Nat} (h : w.cell? p = some (.int k n)) : cellInt w p = n := by unfold cellInt; rw [h]; simp
end
end

/- Run37d:
  The state between the steps of a round.
-/
section
section
set_option linter.unusedVariables false
set_option linter.unusedSimpArgs false
set_option linter.unnecessarySimpa false
open Go.RowKit

/-- the content, or nothing -/
def runZ (r : Rcv) : List Int := if r.miss = [] then doneT r r.ids else []
/-- what lies in memory ahead of a run -/
structure RunIn (w : World) (Ai : Option Addr) (ids : List IdZ) (Ah : Option Addr) (hs : List ChZ) (As : Option Addr) (snd : List ChZ) (AF : Option Addr) (fl : List Fts) : Prop where
  rids : Row w w.heap.size Ai (idsC ids)
  rhs : Row w w.heap.size Ah (chsC hs)
  rhin : ChsIn w hs
  rsnd : Row w w.heap.size As (chsC snd)
  rsin : ChsIn w snd
  rfl : Row w w.heap.size AF (fl.map Fts.v)
  rfs : ∀ f ∈ fl, Row w w.heap.size f.A (ftsC f.fs)
theorem RunIn.up {w w' : World} {Ai Ah As AF : Option Addr} {ids : List IdZ} {hs snd : List ChZ} {fl : List Fts} (h : RunIn w Ai ids Ah hs As snd AF fl) (k : Grew w w') : RunIn w' Ai ids Ah hs As snd AF fl :=
  ⟨(h.rids.up k (Nat.le_refl _)).more k.size, (h.rhs.up k (Nat.le_refl _)).more k.size, h.rhin.up k, (h.rsnd.up k (Nat.le_refl _)).more k.size, h.rsin.up k, (h.rfl.up k (Nat.le_refl _)).more k.size, fun f hf => ((h.rfs f hf).up k (Nat.le_refl _)).more k.size⟩
/-- .. and is so of it -/
structure RunOk (ids : List IdZ) (hs snd : List ChZ) (fl : List Fts) : Prop where
  oids : ∀ x ∈ ids, WfI x
  ohs : ∀ c ∈ hs, WfI c.id ∧ Byt c.p.zs
  osnd : ∀ c ∈ snd, WfI c.id ∧ Byt c.p.zs
  ofs : ∀ f ∈ fl, (∀ x ∈ f.fs, FtOk x) ∧ f.fs.length ≤ 1000
  nids : ids.length ≤ 9223372036854775807
  nhs : hs.length ≤ 1000000000
  nsnd : snd.length ≤ 1000000000
  nfl : fl.length ≤ 9223372036854775807

/-- behind i steps of a round -/
structure StepSt (w0 : World) (base : Nat) (P : RunP) (cs : List ChZ) (vf : Value) (j M : Nat) (L : RcL) (r : Rcv) (f1 f2 : List FtZ) (i : Nat) (w : World) : Prop where
  is : RunIs w w0.heap.size P cs vf j
  grew : Grew w0 w
  lo : w0.heap.size ≤ P.gP ∧ w0.heap.size ≤ base ∧ base ≤ w.heap.size ∧ P.bm < w.heap.size
  st : (i = 0 ∧ (∃ v, Blk w P.gP 49 #[v]) ∧ RcvIs w base P.g M L r ∧ ¬ L.F r P.g P.bm) ∨
    (1 ≤ i ∧ i ≤ 4 ∧ RcvIs w base P.g M L r ∧ ¬ L.F r P.g P.bm ∧ ∃ (A : Option Addr) (c : Nat) (ql : List Pk) (bp : Nat), Blk w P.gP 49 #[.slice A ql.length c] ∧ PksIs w bp A c ql ∧ bp ≤ w.heap.size ∧ ql.map Pk.z = zsAt cs r f1 f2 i ∧ (∀ k, L.F r P.g k → k < bp)) ∨
    (i = 5 ∧ ∃ M' L', M' ≤ M + 8000 ∧ RcvIs w base P.g M' L' (roundR cs r f1 f2) ∧ (∃ v, Blk w P.gP 49 #[v]) ∧ ¬ L'.F (roundR cs r f1 f2) P.g P.bm)
section
variable {w0 w w' : World} {base j M i : Nat} {P : RunP} {cs : List ChZ} {vf : Value} {L : RcL} {r : Rcv} {f1 f2 : List FtZ}
theorem StepSt.mid (h : StepSt w0 base P cs vf j M L r f1 f2 i w) (h1 : 1 ≤ i) (h4 : i ≤ 4) : RcvIs w base P.g M L r ∧ ¬ L.F r P.g P.bm ∧ ∃ (A : Option Addr) (c : Nat) (ql : List Pk) (bp : Nat), Blk w P.gP 49 #[.slice A ql.length c] ∧ PksIs w bp A c ql ∧ bp ≤ w.heap.size ∧ ql.map Pk.z = zsAt cs r f1 f2 i ∧ (∀ k, L.F r P.g k → k < bp) := by
  rcases h.st with ⟨e, _⟩ | ⟨_, _, hr⟩ | ⟨e, _⟩
  · omega
  · exact hr
  · omega
/-- a step puts packets -/
theorem StepSt.put (h : StepSt w0 base P cs vf j M L r f1 f2 i w) (hi : i ≤ 3) {e : Ending} (hp : PutRes P.gP (zsAt cs r f1 f2 (i + 1)) w e w') : e = .returned (.tuple #[]) ∧ StepSt w0 base P cs vf j M L r f1 f2 (i + 1) w' := by
  obtain ⟨A, c, ql, he, hz, hB, hI, hc⟩ := hp
  have hR : RcvIs w base P.g M L r ∧ ¬ L.F r P.g P.bm ∧ ∃ v, Blk w P.gP 49 #[v] := by
    rcases h.st with ⟨_, hv, hr, hn⟩ | ⟨_, _, hr, hn, _, _, _, _, hb, _⟩ | ⟨e5, _⟩
    · exact ⟨hr, hn, hv⟩
    · exact ⟨hr, hn, _, hb⟩
    · omega
  obtain ⟨hr, hn, v, hv⟩ := hR
  have hl := h.lo
  have hs := hc.size
  refine ⟨he, h.is.put hv hc, Below.trans (B := w0.heap.size) h.grew (hc.below h.grew.size (fun q hq => by have h2 : q = P.gP := hq; omega)), ⟨hl.1, hl.2.1, by omega, by omega⟩, .inr (.inl ⟨by omega, by omega, hr.chB hc hv (by decide) (by decide) (by decide), hn, A, c, ql, w.heap.size, hB, hI, hs, hz, hr.Flt⟩)⟩
theorem StepSt.take (h : StepSt w0 base P cs vf j M L r f1 f2 4 w) {e : Ending} (hb : base ≤ w.heap.size) (hlen : (zsAt cs r f1 f2 4).length ≤ 4000) (hT : TakeAllRes base P.g M (zsAt cs r f1 f2 4).length L r (zsAt cs r f1 f2 4) w e w') : e = .returned (.tuple #[]) ∧ StepSt w0 base P cs vf j M L r f1 f2 5 w' := by
  obtain ⟨L', he, S⟩ := hT
  obtain ⟨hr, hn, A, c, ql, bp, hB, hI, hbp, hz, hF⟩ := h.mid (by omega) (by omega)
  have hl := h.lo
  have hs := S.ch.size
  have hnP : ¬ L.F r P.g P.gP := hr.notF hB (by decide) (by decide) (by decide)
  refine ⟨he, h.is.took hr hn S.ch, ?_, ⟨hl.1, hl.2.1, by omega, by omega⟩, .inr (.inr ⟨rfl, M + 2 * (zsAt cs r f1 f2 4).length, L', by omega, S.is, ⟨_, hB.ch S.ch hnP⟩, fun h5 => ?_⟩)⟩
  · exact Below.trans (B := w0.heap.size) h.grew ((S.below hr hb).mono hl.2.1)
  · rcases S.fr _ h5 with h6 | h6
    · exact hn h6
    · omega
variable {Ai Ah As AF : Option Addr} {ids : List IdZ} {hs : List ChZ} {fl : List Fts} {fc : Nat}
theorem step0 (h : StepSt w0 base P cs vf j M L r f1 f2 0 w) (ok : RcOk r) : Calls Try.prog 49 #[.pointer (some ⟨P.gR, 0, none⟩), .pointer (some ⟨P.gP, 0, none⟩)] w fun e w' => e = .returned (.tuple #[]) ∧ StepSt w0 base P cs vf j M L r f1 f2 1 w' := by
  rcases h.st with ⟨_, ⟨v, hv⟩, hr, hn⟩ | ⟨e1, _⟩ | ⟨e5, _⟩
  · exact (stepAsk_any P.gR P.gP v w h.is.rb hv hr ok).mono fun e w' hp => h.put (by omega) hp
  · omega
  · omega
theorem step1 (h : StepSt w0 base P cs (.slice AF fl.length fc) j M L r (ofF (fl.map Fts.fs) (2 * j)) f2 1 w) (ok : RcOk r) (hI : RunIn w0 Ai ids Ah hs As cs AF fl) (hO : RunOk ids hs cs fl) (hj : j ≤ 1024) :
    Calls Try.prog 50 #[.pointer (some ⟨P.gP, 0, none⟩), .pointer (some ⟨P.gF, 0, none⟩), .pointer (some ⟨P.gN, 0, none⟩)] w fun e w' => e = .returned (.tuple #[]) ∧ StepSt w0 base P cs (.slice AF fl.length fc) j M L r (ofF (fl.map Fts.fs) (2 * j)) f2 2 w' := by
  obtain ⟨hr, hn, A, c, ql, bp, hB, hP, hbp, hz, hF⟩ := h.mid (by omega) (by omega)
  have hz1 := mem_z hz (zsAt_ok ok hO.osnd 1)
  have hIw := hI.up h.grew
  have hq := len_z hz
  have ha : (askZ r).length ≤ 1024 := by unfold askZ; rw [List.length_map]; exact ok.len.2.2.1
  have hq2 : ql.length = (askZ r).length := hq
  have hf := ofP_mem (fl := fl) (k := 2 * j) (Q := fun f => Row w w.heap.size f.A (ftsC f.fs) ∧ (∀ x ∈ f.fs, FtOk x) ∧ f.fs.length ≤ 1000) ⟨.nil, fun x hx => (by cases hx), Nat.zero_le _⟩ (fun f hf => ⟨hIw.rfs f hf, (hO.ofs f hf).1, (hO.ofs f hf).2⟩)
  refine (stepCarry_any P.gP P.gF P.gN j fc c AF A fl ql w hB h.is.fb h.is.nb (own_row hP.row) (hP.in_ hz1) hIw.rfl ⟨hf.1, hf.2.1⟩ (by have := hf.2.2; omega) hO.nfl hj).mono fun e w' hp => h.put (by omega) ?_
  rw [hz, ofP_fs] at hp
  exact hp
theorem step2 (h : StepSt w0 base P cs vf j M L r f1 f2 2 w) (ok : RcOk r) (hI : RunIn w0 Ai ids Ah hs As cs AF fl) (hO : RunOk ids hs cs fl) (h1 : f1.length ≤ 1000) (h2 : f2.length ≤ 1000) :
    Calls Try.prog 52 #[.pointer (some ⟨P.gP, 0, none⟩), .pointer (some ⟨P.gS, 0, none⟩)] w fun e w' => e = .returned (.tuple #[]) ∧ StepSt w0 base P cs vf j M L r f1 f2 3 w' := by
  obtain ⟨hr, hn, A, c, ql, bp, hB, hP, hbp, hz, hF⟩ := h.mid (by omega) (by omega)
  have hz1 := mem_z hz (zsAt_ok ok hO.osnd 2)
  have hIw := hI.up h.grew
  have hq := len_z hz
  have hl := zsAt_length (cs := cs) ok h1 h2 2
  refine (stepAnswer_any P.gP P.gS c P.gC P.bm P.N A ql cs w hB h.is.sb (own_row hP.row) ⟨h.is.cb, h.is.mp, hIw.rsin⟩ (fun p hp => (hz1 p hp).1) (by omega)).mono fun e w' hp => h.put (by omega) ?_
  rw [hz] at hp
  exact hp
theorem step3 (h : StepSt w0 base P cs (.slice AF fl.length fc) j M L r f1 (ofF (fl.map Fts.fs) (2 * j + 1)) 3 w) (ok : RcOk r) (hI : RunIn w0 Ai ids Ah hs As cs AF fl) (hO : RunOk ids hs cs fl) (hj : j ≤ 1024) (h1 : f1.length ≤ 1000) :
    Calls Try.prog 54 #[.pointer (some ⟨P.gP, 0, none⟩), .pointer (some ⟨P.gF, 0, none⟩), .pointer (some ⟨P.gN, 0, none⟩)] w fun e w' => e = .returned (.tuple #[]) ∧ StepSt w0 base P cs (.slice AF fl.length fc) j M L r f1 (ofF (fl.map Fts.fs) (2 * j + 1)) 4 w' := by
  obtain ⟨hr, hn, A, c, ql, bp, hB, hP, hbp, hz, hF⟩ := h.mid (by omega) (by omega)
  have hz1 := mem_z hz (zsAt_ok ok hO.osnd 3)
  have hIw := hI.up h.grew
  have hq := len_z hz
  have hf2 := ofF_mem (fs := fl.map Fts.fs) (k := 2 * j + 1) (Q := fun f => f.length ≤ 1000) (Nat.zero_le _) (fun f hf => by
    obtain ⟨g, hg, rfl⟩ := List.mem_map.1 hf
    exact (hO.ofs g hg).2)
  have hl := zsAt_length (cs := cs) ok h1 hf2 3
  have hf := ofP_mem (fl := fl) (k := 2 * j + 1) (Q := fun f => Row w w.heap.size f.A (ftsC f.fs) ∧ (∀ x ∈ f.fs, FtOk x) ∧ f.fs.length ≤ 1000) ⟨.nil, fun x hx => (by cases hx), Nat.zero_le _⟩ (fun f hf => ⟨hIw.rfs f hf, (hO.ofs f hf).1, (hO.ofs f hf).2⟩)
  refine (stepBack_any P.gP P.gF P.gN j fc c AF A fl ql w hB h.is.fb h.is.nb (own_row hP.row) (hP.in_ hz1) hIw.rfl ⟨hf.1, hf.2.1⟩ (by have := hf.2.2; omega) hO.nfl hj).mono fun e w' hp => h.put (by omega) ?_
  rw [hz, ofP_fs] at hp
  exact hp
theorem step4 (h : StepSt w0 base P cs vf j M L r f1 f2 4 w) (ok : RcOk r) (hO : RunOk ids hs cs fl) (h1 : f1.length ≤ 1000) (h2 : f2.length ≤ 1000) (hM : M ≤ 1000000000000) :
    Calls Try.prog 55 #[.pointer (some ⟨P.gR, 0, none⟩), .pointer (some ⟨P.gP, 0, none⟩)] w fun e w' => e = .returned (.tuple #[]) ∧ StepSt w0 base P cs vf j M L r f1 f2 5 w' := by
  obtain ⟨hr, hn, A, c, ql, bp, hB, hP, hbp, hz, hF⟩ := h.mid (by omega) (by omega)
  have hz1 := mem_z hz (zsAt_ok ok hO.osnd 4)
  have hq := len_z hz
  have hl := zsAt_length (cs := cs) ok h1 h2 4
  refine (stepTake_any P.gR P.gP bp c A ql w h.is.rb hB hr ok hP hF (fun p hp => ⟨(hz1 p hp).1, (hz1 p hp).2.1, by have := (hz1 p hp).2.2; omega⟩) (by omega) h.lo.2.2.1 hbp).mono fun e w' hp => h.take h.lo.2.2.1 hl ?_
  rw [hz, hq] at hp
  exact hp
/-- ahead of a round -/
def OutSt (w0 : World) (base : Nat) (P : RunP) (cs : List ChZ) (vf : Value) (FS : List (List FtZ)) (r0 : Rcv) (rounds : Int) (m0 : Nat) (w : World) : Prop :=
  ∃ (j M : Nat) (L : RcL) (r : Rcv) (v : Value), j ≤ 1024 ∧ (∀ i, i < j → (rcvAt cs FS r0 i).miss ≠ [] ∧ (i : Int) < rounds) ∧ r = rcvAt cs FS r0 j ∧ RcOk r ∧ RunIs w w0.heap.size P cs vf j ∧
    Blk w P.gP 49 #[v] ∧ RcvIs w base P.g M L r ∧ ¬ L.F r P.g P.bm ∧ M ≤ m0 + j * 10000 ∧ Grew w0 w
theorem OutSt.next {FS : List (List FtZ)} {r0 : Rcv} {rounds : Int} {m0 : Nat} (h : StepSt w0 base P cs vf j M L r (ofF FS (2 * j)) (ofF FS (2 * j + 1)) 5 w) (hj : j < 1024) (hJ : ∀ i, i < j → (rcvAt cs FS r0 i).miss ≠ [] ∧ (i : Int) < rounds) (hr : r = rcvAt cs FS r0 j) (ok : RcOk r)
    (hc : ∀ c ∈ cs, WfI c.id ∧ Byt c.p.zs) (hm : r.miss ≠ []) (hjr : (j : Int) < rounds) (hM : M ≤ m0 + j * 10000) (hlo : w0.heap.size ≤ P.gN) : OutSt w0 base P cs vf FS r0 rounds m0 (w.setCell ⟨P.gN, 0, none⟩ (.int .i64 ((j : Int) + 1))) := by
  rcases h.st with ⟨e, _⟩ | ⟨_, e, _⟩ | ⟨_, M', L', hM', hR, ⟨v, hv⟩, hn⟩
  · omega
  · omega
  · have k := (Ch.refl (At P.gN) w).set_at 0 (.int .i64 ((j : Int) + 1))
    have hN := h.is.next
    rw [show ((j + 1 : Nat) : Int) = (j : Int) + 1 by omega] at hN
    refine ⟨j + 1, M', L', roundR cs r (ofF FS (2 * j)) (ofF FS (2 * j + 1)), v, by omega, fun i hi => ?_, ?_, ?_, hN, hv.ch k (fun e => hv.ne_ h.is.nb (by decide) e), hR.chB k h.is.nb (by decide) (by decide) (by decide), hn, by omega, Below.trans (B := w0.heap.size) h.grew (k.below h.grew.size (fun q hq => by have h2 : q = P.gN := hq; omega))⟩
    · rcases Nat.lt_or_ge i j with hij | hij
      · exact hJ i hij
      · obtain rfl : i = j := by omega
        exact ⟨by rw [← hr]; exact hm, hjr⟩
    · rw [hr]; rfl
    · rw [roundR_zs]
      exact ok.takeAll (fun p hp => (zsAt_ok ok hc 4 p hp).2.1)
theorem cellInt_next {g j : Nat} (h : Blk w g 3 #[.int .i64 (j : Nat)]) : cellInt (w.setCell ⟨g, 0, none⟩ (.int .i64 ((j : Int) + 1))) ⟨g, 0, none⟩ = j + 1 := by
  have h2 := (h.set_ 0 (.int .i64 ((j : Int) + 1))).cell 0
  unfold cellInt
  rw [h2]
  simp
end
end
end

/- Run37:
  transfer.Run.
-/
section
section
set_option linter.unusedVariables false
set_option linter.unusedSimpArgs false
set_option linter.unnecessarySimpa false
open Go.RowKit
attribute [local go_sem ↓] Go.wp_at_zero Go.wp_at_succ

def RunRes (n : Nat) (ids : List IdZ) (hs snd : List ChZ) (rounds : Int) (fs : List (List FtZ)) (w : World) (e : Ending) (w' : World) : Prop :=
  Grew w w' ∧ if chkM (n : Int) ids = 0 then ∃ (k : Nat) (A : Option Addr) (c : Nat), Rounds snd fs (recvR n ids hs) rounds k ∧
      e = .returned (.tuple #[.slice A (runZ (rcvAt snd fs (recvR n ids hs) k)).length c, .bool (decide ((rcvAt snd fs (recvR n ids hs) k).miss = [])), .int .i64 k]) ∧
      w'.ownsRow w.heap.size 5 1 (.slice A (runZ (rcvAt snd fs (recvR n ids hs) k)).length c) (runZ (rcvAt snd fs (recvR n ids hs) k)).length ((runZ (rcvAt snd fs (recvR n ids hs) k)).map (.int .u8))
    else e = .returned (.tuple #[.slice none 0 0, .bool false, .int .i64 0])
set_option maxRecDepth 100000 in
set_option maxHeartbeats 4000000 in
theorem run37_any (n : Nat) (Ai : Option Addr) (ci : Nat) (ids : List IdZ) (Ah : Option Addr) (ch : Nat) (hs : List ChZ) (As : Option Addr) (sc : Nat) (snd : List ChZ) (rounds : Int) (AF : Option Addr) (fc : Nat) (fl : List Fts) (w : World)
    (hI : RunIn w Ai ids Ah hs As snd AF fl) (hO : RunOk ids hs snd fl) (hr1 : -9223372036854775808 ≤ rounds) (hr2 : rounds ≤ 9223372036854775807) :
    Calls Try.prog 17 #[.agg #[.int .i64 n, .slice Ai ids.length ci], .slice Ah hs.length ch, .slice As snd.length sc, .int .i64 rounds, .slice AF fl.length fc] w (RunRes n ids hs snd rounds (fl.map Fts.fs) w) := by
  have HIn := Lib.hid hI
  have HO := Lib.hid hO
  clear hI hO
  have g0 := grew_alloc w (.cells #[.int .i64 n, .slice Ai ids.length ci] 33)
  have kM := Blk.new w 33 #[.int .i64 n, .slice Ai ids.length ci]
  have s1 : (w.alloc (.cells #[.int .i64 n, .slice Ai ids.length ci] 33)).heap.size = w.heap.size + 1 := by simp
  have g1 := grew_alloc (w.alloc (.cells #[.int .i64 n, .slice Ai ids.length ci] 33)) (.cells #[.slice AF fl.length fc] 36)
  have kF := Blk.new (w.alloc (.cells #[.int .i64 n, .slice Ai ids.length ci] 33)) 36 #[.slice AF fl.length fc]
  rw [s1] at kF
  replace kM := kM.of g1
  have m0 := (kM.cell 0).trans (show _ = some (.int .i64 n) from rfl)
  have m1 := (kM.cell 1).trans (show _ = some (.slice Ai ids.length ci) from rfl)
  have hg1 := Grew.trans g0 g1
  have hsz1 : ((w.alloc (.cells #[.int .i64 n, .slice Ai ids.length ci] 33)).alloc (.cells #[.slice AF fl.length fc] 36)).heap.size = w.heap.size + 2 := by simp
  have hI1 := HIn.out.up hg1
  have HR := Lib.hid (receive37_any n Ai ci ids Ah ch hs _ hI1.rids HO.out.oids HO.out.nids hI1.rhs hI1.rhin HO.out.ohs (by have := HO.out.nhs; omega))
  clear g0 g1 s1 kM hI1
  go_enter Try.func17, Try.ntmps17
  go_wp2_with fail
  refine HR.out.mono ?_
  clear HR m0 m1
  rintro e w2 ⟨hg2, hif⟩
  replace kF := kF.of hg2
  have hgw := hg1.trans hg2
  have hs2 := hg2.size
  rw [hsz1] at hif hs2
  generalize w.alloc (.cells #[.int .i64 n, .slice Ai ids.length ci] 33) = wq at *
  clear hg1 hg2 hsz1
  by_cases hchk : chkM (n : Int) ids = 0
  · rw [if_pos hchk] at hif
    obtain ⟨g, L0, rfl, hR0⟩ := hif
    have HChk := Lib.hid hchk
    clear hchk
    have gA := grew_alloc w2 (.cells #[.pointer (some ⟨g, 0, none⟩)] 45)
    have kR := Blk.new w2 45 #[.pointer (some ⟨g, 0, none⟩)]
    have z1 : (w2.alloc (.cells #[.pointer (some ⟨g, 0, none⟩)] 45)).heap.size = w2.heap.size + 1 := by simp
    generalize hw3 : w2.alloc (.cells #[.pointer (some ⟨g, 0, none⟩)] 45) = w3 at *
    have gB := grew_alloc w3 (.map #[] 0)
    have hM := MapIs.made w3
    have z2 : (w3.alloc (.map #[] 0)).heap.size = w2.heap.size + 1 + 1 := by simp [z1]
    generalize hw4 : w3.alloc (.map #[] 0) = w4 at *
    have gC := grew_alloc w4 (.cells #[.map (some (w2.heap.size + 1))] 94)
    have kC := Blk.new w4 94 #[.map (some (w2.heap.size + 1))]
    rw [z1] at hM
    rw [z2] at kC
    have z3 : (w4.alloc (.cells #[.map (some (w2.heap.size + 1))] 94)).heap.size = w2.heap.size + 1 + 1 + 1 := by simp [z2]
    have hR4 := hR0.of (gA.trans (gB.trans gC))
    have kR4 := kR.of (gB.trans gC)
    have hM4 := hM.of gC
    have kF4 := kF.of (gA.trans (gB.trans gC))
    have hg4 : Grew w (w4.alloc (.cells #[.map (some (w2.heap.size + 1))] 94)) := hgw.trans (gA.trans (gB.trans gC))
    subst hw4
    subst hw3
    have hmk := @run_makeMap Try.prog
    have hnb0 : ¬ L0.F (recvR n ids hs) g (w2.heap.size + 1) := fun h => by have := hR0.Flt _ h; omega
    have HNb0 := Lib.hid hnb0
    have HR4 := Lib.hid hR4
    have HKR4 := Lib.hid kR4
    have HKF4 := Lib.hid kF4
    have HG4 := Lib.hid hg4
    have HKC := Lib.hid kC
    have HM4 := Lib.hid hM4
    clear gA kR gB hM gC z1 z2 kC hR0 kF hgw hnb0 hR4 kR4 kF4 hg4 hM4
    go_wp2_with fail
    generalize (((w2.alloc (.cells #[.pointer (some ⟨g, 0, none⟩)] 45)).alloc (.map #[] 0)).alloc (.cells #[.map (some (w2.heap.size + 1))] 94)) = w5 at *
    generalize hb2 : w2.heap.size = b2 at *
    go_loopw [39] (fun v wr => ∃ k : Nat, k ≤ snd.length ∧ v = .int .i64 k ∧ MapIs wr (b2 + 1) k (sndM (snd.take k)) ∧ Ch (At (b2 + 1)) w5 wr) (fun v _ => snd.length - (intOf v).toNat)
    case atStart => exact ⟨0, Nat.zero_le _, rfl, HM4.out.congr (fun x => rfl), Ch.refl _ _⟩
    case round =>
      obtain ⟨k, hk, rfl, hM, hch⟩ := hrel
      by_cases hlt : k < snd.length
      · have hG5 : Grew w wr := Below.trans (B := w.heap.size) HG4.out (hch.below HG4.out.size (fun q hq => by have h2 : q = b2 + 1 := hq; omega))
        obtain ⟨ad, hA, hbl, d0, d1, d2⟩ := chs_at (HIn.out.up hG5).rsnd hlt
        have hnew := Lib.hid (fun h x => sndM_new hlt h x)
        have hold := Lib.hid (fun h x => sndM_old hlt h x)
        have hwx := (HO.out.osnd _ (List.getElem_mem hlt)).1
        generalize snd[k] = cc at *
        obtain ⟨⟨j1, j2⟩, bA, bc, zs⟩ := cc
        simp only at d0 d1 d2 hwx
        have ga := grew_alloc wr (.cells #[.int .u64 j1, .int .i64 j2, .slice bA zs.length bc] 64)
        have kB := Blk.new wr 64 #[.int .u64 j1, .int .i64 j2, .slice bA zs.length bc]
        have hM5 := hM.of ga
        have hc5 := hch.next ga
        have hC5 := (HKC.out.ch hch (fun h => by have h2 : b2 + 1 + 1 = b2 + 1 := h; omega)).of ga
        have m0 := (hC5.cell 0).trans (show _ = some (.map (some (b2 + 1))) from rfl)
        have e0 := (kB.cell 0).trans (show _ = some (.int .u64 j1) from rfl)
        have e1 := (kB.cell 1).trans (show _ = some (.int .i64 j2) from rfl)
        have e2 := (kB.cell 2).trans (show _ = some (.slice bA zs.length bc) from rfl)
        have hl := hM5.look' (xs := j1) (xn := j2) hwx Try.underlying94 (z := .slice none 0 0) (by kernel_rfl)
        have HB := Lib.hid (fun w' hg => hc5.trans (w2 := w') hg)
        have hnl := HO.out.nsnd
        clear ga kB hC5 hM hch hG5
        subst hA
        cases hs0 : sndM (snd.take k) (j1, j2) with
        | none =>
          obtain ⟨w6, hup, hM6, hc6⟩ := hM5.store (x := (j1, j2)) hwx Try.underlying94 (by unfold maxLen; omega) (.slice bA zs.length bc)
          simp only at hup
          rw [hs0] at hl
          have HM6 := Lib.hid (hM6.congr (fun x => hnew.out hs0 x))
          have HC6 := Lib.hid (HB.out w6 hc6)
          clear hM6 hc6 hM5 hs0 hc5
          go_wp2_with fail
          go_roundw
          case rel => exact ⟨k + 1, by omega, by go_num, HM6.out, HC6.out⟩
          case measure => simp [intOf]; omega
        | some v =>
          have HM6 := Lib.hid ((hM5.mono (Nat.le_succ k)).congr (fun x => hold.out (by rw [hs0]; rfl) x))
          have HC6 := Lib.hid hc5
          rw [hs0] at hl
          clear hM5 hs0 hc5
          go_wp2_with fail
          go_roundw
          case rel => exact ⟨k + 1, by omega, by go_num, HM6.out, HC6.out⟩
          case measure => simp [intOf]; omega
      · obtain rfl : k = snd.length := by omega
        rw [List.take_length] at hM
        have hsf := @run_store_func Try.prog wr
        have hG5 : Grew w wr := Below.trans (B := w.heap.size) HG4.out (hch.below HG4.out.size (fun q hq => by have h2 : q = b2 + 1 := hq; omega))
        have hR5 : RcvIs wr (w.heap.size + 2) g hs.length L0 (recvR n ids hs) := HR4.out.chM hch HM4.out (fun h => HNb0.out h)
        have hkR5 := HKR4.out.ch hch (fun h => by have h2 : b2 = b2 + 1 := h; omega)
        have hkF5 := HKF4.out.ch hch (fun h => by have h2 : w.heap.size + 1 = b2 + 1 := h; omega)
        have hkC5 := HKC.out.ch hch (fun h => by have h2 : b2 + 1 + 1 = b2 + 1 := h; omega)
        have hsz5 := hch.size
        generalize hc0 : wr.heap.size = c0 at *
        have gA := grew_alloc wr (.cells #[.func (Fn.func 47) #[] #[.pointer (some ⟨b2 + 1 + 1, 0, none⟩)]] 96)
        have kS := Blk.new wr 96 #[.func (Fn.func 47) #[] #[.pointer (some ⟨b2 + 1 + 1, 0, none⟩)]]
        have y1 : (wr.alloc (.cells #[.func (Fn.func 47) #[] #[.pointer (some ⟨b2 + 1 + 1, 0, none⟩)]] 96)).heap.size = c0 + 1 := by simp [hc0]
        have gB := grew_alloc (wr.alloc (.cells #[.func (Fn.func 47) #[] #[.pointer (some ⟨b2 + 1 + 1, 0, none⟩)]] 96)) (.cells #[.int .i64 0] 3)
        have kN := Blk.new (wr.alloc (.cells #[.func (Fn.func 47) #[] #[.pointer (some ⟨b2 + 1 + 1, 0, none⟩)]] 96)) 3 #[.int .i64 0]
        have y2 : ((wr.alloc (.cells #[.func (Fn.func 47) #[] #[.pointer (some ⟨b2 + 1 + 1, 0, none⟩)]] 96)).alloc (.cells #[.int .i64 0] 3)).heap.size = c0 + 1 + 1 := by simp [hc0]
        have gC := grew_alloc ((wr.alloc (.cells #[.func (Fn.func 47) #[] #[.pointer (some ⟨b2 + 1 + 1, 0, none⟩)]] 96)).alloc (.cells #[.int .i64 0] 3)) (.cells #[.slice none 0 0] 49)
        have kP := Blk.new ((wr.alloc (.cells #[.func (Fn.func 47) #[] #[.pointer (some ⟨b2 + 1 + 1, 0, none⟩)]] 96)).alloc (.cells #[.int .i64 0] 3)) 49 #[.slice none 0 0]
        have y3 : (((wr.alloc (.cells #[.func (Fn.func 47) #[] #[.pointer (some ⟨b2 + 1 + 1, 0, none⟩)]] 96)).alloc (.cells #[.int .i64 0] 3)).alloc (.cells #[.slice none 0 0] 49)).heap.size = c0 + 1 + 1 + 1 := by simp [hc0]
        have gD := grew_alloc (((wr.alloc (.cells #[.func (Fn.func 47) #[] #[.pointer (some ⟨b2 + 1 + 1, 0, none⟩)]] 96)).alloc (.cells #[.int .i64 0] 3)).alloc (.cells #[.slice none 0 0] 49)) (.cells #[.func (Fn.func 49) #[] #[.pointer (some ⟨b2, 0, none⟩), .pointer (some ⟨c0 + 1 + 1, 0, none⟩)], .func (Fn.func 50) #[] #[.pointer (some ⟨c0 + 1 + 1, 0, none⟩), .pointer (some ⟨w.heap.size + 1, 0, none⟩), .pointer (some ⟨c0 + 1, 0, none⟩)], .func (Fn.func 52) #[] #[.pointer (some ⟨c0 + 1 + 1, 0, none⟩), .pointer (some ⟨c0, 0, none⟩)], .func (Fn.func 54) #[] #[.pointer (some ⟨c0 + 1 + 1, 0, none⟩), .pointer (some ⟨w.heap.size + 1, 0, none⟩), .pointer (some ⟨c0 + 1, 0, none⟩)], .func (Fn.func 55) #[] #[.pointer (some ⟨b2, 0, none⟩), .pointer (some ⟨c0 + 1 + 1, 0, none⟩)]] 1)
        have kT := Blk.new (((wr.alloc (.cells #[.func (Fn.func 47) #[] #[.pointer (some ⟨b2 + 1 + 1, 0, none⟩)]] 96)).alloc (.cells #[.int .i64 0] 3)).alloc (.cells #[.slice none 0 0] 49)) 1 #[.func (Fn.func 49) #[] #[.pointer (some ⟨b2, 0, none⟩), .pointer (some ⟨c0 + 1 + 1, 0, none⟩)], .func (Fn.func 50) #[] #[.pointer (some ⟨c0 + 1 + 1, 0, none⟩), .pointer (some ⟨w.heap.size + 1, 0, none⟩), .pointer (some ⟨c0 + 1, 0, none⟩)], .func (Fn.func 52) #[] #[.pointer (some ⟨c0 + 1 + 1, 0, none⟩), .pointer (some ⟨c0, 0, none⟩)], .func (Fn.func 54) #[] #[.pointer (some ⟨c0 + 1 + 1, 0, none⟩), .pointer (some ⟨w.heap.size + 1, 0, none⟩), .pointer (some ⟨c0 + 1, 0, none⟩)], .func (Fn.func 55) #[] #[.pointer (some ⟨b2, 0, none⟩), .pointer (some ⟨c0 + 1 + 1, 0, none⟩)]]
        rw [hc0] at kS
        rw [y1] at kN
        rw [y2] at kP
        rw [y3] at kT
        have gCD := gC.trans gD
        have gBD := gB.trans gCD
        have gAD := gA.trans gBD
        have HP : Hid (RunIs _ w.heap.size ⟨b2, w.heap.size + 1, c0 + 1, c0, b2 + 1 + 1, c0 + 1 + 1, c0 + 1 + 1 + 1, g, b2 + 1, snd.length⟩ snd (.slice AF fl.length fc) 0) := Lib.hid
          ⟨hkR5.of gAD, hkF5.of gAD, kN.of gCD, kS.of gBD, hkC5.of gAD, hM.of gAD, kT, by show b2 + 1 ≠ c0 + 1 + 1; omega⟩
        have HPk := Lib.hid (kP.of gD)
        have HR := Lib.hid (hR5.of gAD)
        have HGw := Lib.hid (hG5.trans gAD)
        clear gA kS y1 gB kN y2 gC kP y3 gD kT gCD gBD gAD hkR5 hkF5 hkC5 hR5 hG5 hch hM
        go_wp2_with fail
        generalize (((wr.alloc (.cells #[.func (Fn.func 47) #[] #[.pointer (some ⟨b2 + 1 + 1, 0, none⟩)]] 96)).alloc (.cells #[.int .i64 0] 3)).alloc (.cells #[.slice none 0 0] 49)).alloc (.cells #[.func (Fn.func 49) #[] #[.pointer (some ⟨b2, 0, none⟩), .pointer (some ⟨c0 + 1 + 1, 0, none⟩)], .func (Fn.func 50) #[] #[.pointer (some ⟨c0 + 1 + 1, 0, none⟩), .pointer (some ⟨w.heap.size + 1, 0, none⟩), .pointer (some ⟨c0 + 1, 0, none⟩)], .func (Fn.func 52) #[] #[.pointer (some ⟨c0 + 1 + 1, 0, none⟩), .pointer (some ⟨c0, 0, none⟩)], .func (Fn.func 54) #[] #[.pointer (some ⟨c0 + 1 + 1, 0, none⟩), .pointer (some ⟨w.heap.size + 1, 0, none⟩), .pointer (some ⟨c0 + 1, 0, none⟩)], .func (Fn.func 55) #[] #[.pointer (some ⟨b2, 0, none⟩), .pointer (some ⟨c0 + 1 + 1, 0, none⟩)]] 1) = w6 at *
        have HS0 := Lib.hid (show RcOk (recvR n ids hs) from recvR_ok HChk.out HO.out.oids (fun c hc => (HO.out.ohs c hc).2))
        have hwc : w.heap.size ≤ c0 := by have := HG4.out.size; omega
        clear hsf hc0
        go_loopw [] (fun wx => OutSt w (w.heap.size + 2) ⟨b2, w.heap.size + 1, c0 + 1, c0, b2 + 1 + 1, c0 + 1 + 1, c0 + 1 + 1 + 1, g, b2 + 1, snd.length⟩ snd (.slice AF fl.length fc) (fl.map Fts.fs) (recvR n ids hs) rounds hs.length wx) (fun wx => 1024 - cellInt wx ⟨c0 + 1, 0, none⟩)
        case atStart => exact ⟨0, hs.length, L0, _, _, Nat.zero_le _, fun i hi => (by omega), rfl, HS0.out, HP.out, HPk.out, HR.out, HNb0.out, by omega, HGw.out⟩
        case round =>
          clear HP HPk HR HGw HS0
          obtain ⟨j, M, L, r, v, hj, hJ, hRr, hOK, hP, hPk, hR, hNb, hM, hb⟩ := hrel
          have HJ := Lib.hid hJ
          have HRr := Lib.hid hRr
          have OK := Lib.hid hOK
          have HNb := Lib.hid hNb
          clear hJ hRr hOK hNb
          have hn0 := (hP.nb.cell 0).trans (show _ = some (.int .i64 j) from rfl)
          have hr0 := (hP.rb.cell 0).trans (show _ = some (.pointer (some ⟨g, 0, none⟩)) from rfl)
          obtain ⟨_, _, _, _, hc4, _⟩ := hR.cells
          have hml := OK.out.len.2.2.1
          have HPI := Lib.hid hP
          have HPK := Lib.hid hPk
          have HRI := Lib.hid hR
          have HBB := Lib.hid hb
          have hcin := cellInt_of hn0
          have HCI := Lib.hid hcin
          clear hP hPk hR hb hcin
          by_cases hm0 : 0 < r.miss.length
          · have hm0I : (0 : Int) < (r.miss.length : Int) := by omega
            by_cases hjr : (j : Int) < rounds
            · by_cases hj4 : j < 1024
              · have hj4I : (j : Int) < 1024 := by omega
                have HF1 : Hid ((ofF (fl.map Fts.fs) (2 * j)).length ≤ 1000) := Lib.hid (ofF_mem (fs := (fl.map Fts.fs)) (Q := fun f => f.length ≤ 1000) (Nat.zero_le _) (fun f hf => by
                  obtain ⟨q, hq, rfl⟩ := List.mem_map.1 hf
                  exact (HO.out.ofs q hq).2))
                have HF2 : Hid ((ofF (fl.map Fts.fs) (2 * j + 1)).length ≤ 1000) := Lib.hid (ofF_mem (fs := (fl.map Fts.fs)) (Q := fun f => f.length ≤ 1000) (Nat.zero_le _) (fun f hf => by
                  obtain ⟨q, hq, rfl⟩ := List.mem_map.1 hf
                  exact (HO.out.ofs q hq).2))
                have hnh := HO.out.nhs
                have hSt : StepSt w (w.heap.size + 2) ⟨b2, w.heap.size + 1, c0 + 1, c0, b2 + 1 + 1, c0 + 1 + 1, c0 + 1 + 1 + 1, g, b2 + 1, snd.length⟩ snd (.slice AF fl.length fc) j M L r (ofF (fl.map Fts.fs) (2 * j)) (ofF (fl.map Fts.fs) (2 * j + 1)) 0 wr :=
                  ⟨HPI.out, HBB.out, ⟨by show w.heap.size ≤ c0 + 1 + 1; omega, by omega, by have h1 : g < wr.heap.size := HRI.out.Flt g (.inl rfl); have h2 : w.heap.size + 2 ≤ g := HRI.out.lo.1; omega, HPI.out.mp.lt⟩, .inl ⟨rfl, ⟨v, HPK.out⟩, HRI.out, HNb.out⟩⟩
                have HSt := Lib.hid hSt
                clear hSt
                go_wp2_with fail
                go_loopw [82] (fun u wy => ∃ i : Nat, i ≤ 5 ∧ u = .int .i64 i ∧ StepSt w (w.heap.size + 2) ⟨b2, w.heap.size + 1, c0 + 1, c0, b2 + 1 + 1, c0 + 1 + 1, c0 + 1 + 1 + 1, g, b2 + 1, snd.length⟩ snd (.slice AF fl.length fc) j M L r (ofF (fl.map Fts.fs) (2 * j)) (ofF (fl.map Fts.fs) (2 * j + 1)) i wy) (fun u _ => 5 - (intOf u).toNat)
                case atStart => exact ⟨0, by omega, rfl, HSt.out⟩
                case round =>
                  clear HSt hn0 hr0 hc4
                  obtain ⟨i, hi, rfl, hS⟩ := hrel
                  have HS := Lib.hid hS
                  clear hS
                  have hi6 : i = 0 ∨ i = 1 ∨ i = 2 ∨ i = 3 ∨ i = 4 ∨ i = 5 := by omega
                  rcases hi6 with rfl | rfl | rfl | rfl | rfl | rfl
                  · have tq := (HS.out.is.tb.cell 0).trans (show _ = some (.func (Fn.func 49) #[] #[.pointer (some ⟨b2, 0, none⟩), .pointer (some ⟨c0 + 1 + 1, 0, none⟩)]) from rfl)
                    have HC := Lib.hid (step0 HS.out OK.out)
                    go_wp2_with fail
                    refine HC.out.mono ?_
                    clear HC tq
                    rintro e wz ⟨rfl, hS⟩
                    have HS2 := Lib.hid hS
                    clear hS HS
                    go_wp2_with fail
                    go_roundw
                    case rel => exact ⟨1, by omega, by go_num, HS2.out⟩
                    case measure => simp [intOf]
                  · have tq := (HS.out.is.tb.cell 1).trans (show _ = some (.func (Fn.func 50) #[] #[.pointer (some ⟨c0 + 1 + 1, 0, none⟩), .pointer (some ⟨w.heap.size + 1, 0, none⟩), .pointer (some ⟨c0 + 1, 0, none⟩)]) from rfl)
                    have HC := Lib.hid (step1 HS.out OK.out HIn.out HO.out hj)
                    go_wp2_with fail
                    refine HC.out.mono ?_
                    clear HC tq
                    rintro e wz ⟨rfl, hS⟩
                    have HS2 := Lib.hid hS
                    clear hS HS
                    go_wp2_with fail
                    go_roundw
                    case rel => exact ⟨2, by omega, by go_num, HS2.out⟩
                    case measure => simp [intOf]
                  · have tq := (HS.out.is.tb.cell 2).trans (show _ = some (.func (Fn.func 52) #[] #[.pointer (some ⟨c0 + 1 + 1, 0, none⟩), .pointer (some ⟨c0, 0, none⟩)]) from rfl)
                    have HC := Lib.hid (step2 HS.out OK.out HIn.out HO.out HF1.out HF2.out)
                    go_wp2_with fail
                    refine HC.out.mono ?_
                    clear HC tq
                    rintro e wz ⟨rfl, hS⟩
                    have HS2 := Lib.hid hS
                    clear hS HS
                    go_wp2_with fail
                    go_roundw
                    case rel => exact ⟨3, by omega, by go_num, HS2.out⟩
                    case measure => simp [intOf]
                  · have tq := (HS.out.is.tb.cell 3).trans (show _ = some (.func (Fn.func 54) #[] #[.pointer (some ⟨c0 + 1 + 1, 0, none⟩), .pointer (some ⟨w.heap.size + 1, 0, none⟩), .pointer (some ⟨c0 + 1, 0, none⟩)]) from rfl)
                    have HC := Lib.hid (step3 HS.out OK.out HIn.out HO.out hj HF1.out)
                    go_wp2_with fail
                    refine HC.out.mono ?_
                    clear HC tq
                    rintro e wz ⟨rfl, hS⟩
                    have HS2 := Lib.hid hS
                    clear hS HS
                    go_wp2_with fail
                    go_roundw
                    case rel => exact ⟨4, by omega, by go_num, HS2.out⟩
                    case measure => simp [intOf]
                  · have tq := (HS.out.is.tb.cell 4).trans (show _ = some (.func (Fn.func 55) #[] #[.pointer (some ⟨b2, 0, none⟩), .pointer (some ⟨c0 + 1 + 1, 0, none⟩)]) from rfl)
                    have HC := Lib.hid (step4 HS.out OK.out HO.out HF1.out HF2.out (by omega))
                    go_wp2_with fail
                    refine HC.out.mono ?_
                    clear HC tq
                    rintro e wz ⟨rfl, hS⟩
                    have HS2 := Lib.hid hS
                    clear hS HS
                    go_wp2_with fail
                    go_roundw
                    case rel => exact ⟨5, by omega, by go_num, HS2.out⟩
                    case measure => simp [intOf]
                  · have hnb := HS.out.is.nb
                    have hn0 := (hnb.cell 0).trans (show _ = some (.int .i64 j) from rfl)
                    have hz0 := hnb.frozen 0
                    have hwj : IntKind.i64.wrap ((j : Int) + 1) = (j : Int) + 1 := Go.IntWalk.i64_in _ (by omega)
                    have HN := Lib.hid (OutSt.next (m0 := hs.length) HS.out hj4 HJ.out HRr.out OK.out HO.out.osnd (fun e => by rw [e] at hm0; simp at hm0) hjr (by omega) (by show w.heap.size ≤ c0 + 1; omega))
                    have HME := Lib.hid (cellInt_next hnb)
                    clear hnb HS
                    go_wp2_with fail
                    go_roundw
                    case rel => exact HN.out
                    case measure => rw [HME.out, HCI.out]; omega
              · obtain rfl : j = 1024 := by omega
                have HMN : Hid (¬ r.miss = []) := Lib.hid (fun e => by rw [e] at hm0; simp at hm0)
                have HRd : Hid (Rounds snd (fl.map Fts.fs) (recvR n ids hs) rounds 1024) := Lib.hid ⟨Nat.le_refl _, HJ.out, .inr (.inr rfl)⟩
                have HD := Lib.hid (done37_no _ HRI.out hm0)
                go_wp2_with fail
                refine HD.out.mono ?_
                clear HD hn0 hr0 hc4
                rintro e wd ⟨rfl, hg⟩
                have n0 := ((HPI.out.nb.of hg).cell 0).trans (show _ = some (.int .i64 (1024 : Nat)) from rfl)
                have HEX := Lib.hid (fun W (hW : Grew wd W) => (show RunRes n ids hs snd rounds (fl.map Fts.fs) w (.returned (.tuple #[.slice none 0 0, .bool false, .int .i64 1024])) W from ⟨Below.trans (B := w.heap.size) HBB.out ((Grew.trans hg hW).mono HBB.out.size), by
                  rw [if_pos HChk.out]
                  refine ⟨1024, none, 0, HRd.out, ?_, ?_⟩
                  · rw [← HRr.out]
                    rw [show runZ r = [] from if_neg HMN.out, decide_eq_false HMN.out]
                    rfl
                  · rw [← HRr.out]
                    rw [show runZ r = [] from if_neg HMN.out]
                    exact World.ownsRow_nil _ _ _ _⟩))
                clear hg
                go_wp2_with fail
                go_quiet (fail)
                go_wp2_with fail
                refine bodyPost_ret (v := .tuple #[.slice none 0 0, .bool false, .int .i64 1024]) ?_ rfl (HEX.out _ (grew_drawn ⟨_, rfl⟩))
                simp [results, Try.results17, go_sem]
            · have hjrI : rounds ≤ (j : Int) := by omega
              have HMN : Hid (¬ r.miss = []) := Lib.hid (fun e => by rw [e] at hm0; simp at hm0)
              have HRd : Hid (Rounds snd (fl.map Fts.fs) (recvR n ids hs) rounds j) := Lib.hid ⟨hj, HJ.out, .inr (.inl hjrI)⟩
              have HD := Lib.hid (done37_no _ HRI.out hm0)
              go_wp2_with fail
              refine HD.out.mono ?_
              clear HD hn0 hr0 hc4
              rintro e wd ⟨rfl, hg⟩
              have n0 := ((HPI.out.nb.of hg).cell 0).trans (show _ = some (.int .i64 j) from rfl)
              have HEX := Lib.hid (fun W (hW : Grew wd W) => (show RunRes n ids hs snd rounds (fl.map Fts.fs) w (.returned (.tuple #[.slice none 0 0, .bool false, .int .i64 j])) W from ⟨Below.trans (B := w.heap.size) HBB.out ((Grew.trans hg hW).mono HBB.out.size), by
                rw [if_pos HChk.out]
                refine ⟨j, none, 0, HRd.out, ?_, ?_⟩
                · rw [← HRr.out]
                  rw [show runZ r = [] from if_neg HMN.out, decide_eq_false HMN.out]
                  rfl
                · rw [← HRr.out]
                  rw [show runZ r = [] from if_neg HMN.out]
                  exact World.ownsRow_nil _ _ _ _⟩))
              clear hg
              go_wp2_with fail
              go_quiet (fail)
              go_wp2_with fail
              refine bodyPost_ret (v := .tuple #[.slice none 0 0, .bool false, .int .i64 j]) ?_ rfl (HEX.out _ (grew_drawn ⟨_, rfl⟩))
              simp [results, Try.results17, go_sem]
          · have hme : r.miss = [] := List.eq_nil_of_length_eq_zero (by omega)
            have hm0I : ¬ (0 : Int) < (r.miss.length : Int) := by omega
            have HRd : Hid (Rounds snd (fl.map Fts.fs) (recvR n ids hs) rounds j) := Lib.hid ⟨hj, HJ.out, .inl (by rw [← HRr.out]; exact hme)⟩
            have HD := Lib.hid (done37_yes _ HRI.out OK.out hme)
            have HME := Lib.hid hme
            clear hme
            go_wp2_with fail
            refine HD.out.mono ?_
            clear HD hn0 hr0 hc4
            rintro e wd ⟨A, c, rfl, hown, hg⟩
            have n0 := ((HPI.out.nb.of hg).cell 0).trans (show _ = some (.int .i64 j) from rfl)
            have HEX := Lib.hid (fun W (hW : Grew wd W) => (show RunRes n ids hs snd rounds (fl.map Fts.fs) w (.returned (.tuple #[.slice A (doneT r r.ids).length c, .bool true, .int .i64 j])) W from ⟨Below.trans (B := w.heap.size) HBB.out ((Grew.trans hg hW).mono HBB.out.size), by
              rw [if_pos HChk.out]
              refine ⟨j, A, c, HRd.out, ?_, ?_⟩
              · rw [← HRr.out]
                rw [show runZ r = doneT r r.ids from if_pos HME.out, decide_eq_true HME.out]
              · rw [← HRr.out]
                rw [show runZ r = doneT r r.ids from if_pos HME.out]
                exact own_mono (own_below hown hW) HBB.out.size⟩))
            clear hg hown
            go_wp2_with fail
            go_quiet (fail)
            go_wp2_with fail
            refine bodyPost_ret (v := .tuple #[.slice A (doneT r r.ids).length c, .bool true, .int .i64 j]) ?_ rfl (HEX.out _ (grew_drawn ⟨_, rfl⟩))
            simp [results, Try.results17, go_sem]
  · rw [if_neg hchk] at hif
    subst hif
    have hne : ¬ chkM (n : Int) ids = 0 := hchk
    have hne' : (chkM (n : Int) ids == 0) = false := by simp [hchk]
    have HG : Hid (Grew w (w2.alloc (.cells #[.pointer none] 45))) := Lib.hid (hgw.trans (grew_alloc _ _))
    have HE := Lib.hid (show RunRes n ids hs snd rounds (fl.map Fts.fs) w (.returned (.tuple #[.slice none 0 0, .bool false, .int .i64 0])) (w2.alloc (.cells #[.pointer none] 45)) from ⟨HG.out, by rw [if_neg hchk]⟩)
    generalize chkM (n : Int) ids = ce at *
    clear kF hgw hs2
    go_wp2_with fail
    refine bodyPost_ret (v := .tuple #[.slice none 0 0, .bool false, .int .i64 0]) ?_ rfl HE.out
    simp [results, Try.results17, go_sem]
end
end

end Go.Proofs.Ytpoiejgoongllaa
