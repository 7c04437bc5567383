/-
  The state between the steps of a round.
-/
import Derived.Test.YtpoiejgoongllaaRun37c
namespace Go.Proofs.Ytpoiejgoongllaa
section
set_option linter.unusedVariables false
set_option linter.unusedSimpArgs false
set_option linter.unnecessarySimpa false
open Go.RowKit

/-- the content, or nothing -/
def runZ (r : Rcv) : List Int := if r.miss = [] then doneT r r.ids else []
/-- what lies in memory ahead of a run -/
structure RunIn (w : World) (Ai : Option Addr) (ids : List IdZ) (Ah : Option Addr) (hs : List ChZ) (As : Option Addr) (snd : List ChZ) (AF : Option Addr) (fl : List Fts) : Prop where
  rids : Row w w.heap.size Ai (idsC ids)
  rhs : Row w w.heap.size Ah (chsC hs)
  rhin : ChsIn w hs
  rsnd : Row w w.heap.size As (chsC snd)
  rsin : ChsIn w snd
  rfl : Row w w.heap.size AF (fl.map Fts.v)
  rfs : ∀ f ∈ fl, Row w w.heap.size f.A (ftsC f.fs)
theorem RunIn.up {w w' : World} {Ai Ah As AF : Option Addr} {ids : List IdZ} {hs snd : List ChZ} {fl : List Fts} (h : RunIn w Ai ids Ah hs As snd AF fl) (k : Grew w w') : RunIn w' Ai ids Ah hs As snd AF fl :=
  ⟨(h.rids.up k (Nat.le_refl _)).more k.size, (h.rhs.up k (Nat.le_refl _)).more k.size, h.rhin.up k, (h.rsnd.up k (Nat.le_refl _)).more k.size, h.rsin.up k, (h.rfl.up k (Nat.le_refl _)).more k.size, fun f hf => ((h.rfs f hf).up k (Nat.le_refl _)).more k.size⟩
/-- .. and is so of it -/
structure RunOk (ids : List IdZ) (hs snd : List ChZ) (fl : List Fts) : Prop where
  oids : ∀ x ∈ ids, WfI x
  ohs : ∀ c ∈ hs, WfI c.id ∧ Byt c.p.zs
  osnd : ∀ c ∈ snd, WfI c.id ∧ Byt c.p.zs
  ofs : ∀ f ∈ fl, (∀ x ∈ f.fs, FtOk x) ∧ f.fs.length ≤ 1000
  nids : ids.length ≤ 9223372036854775807
  nhs : hs.length ≤ 1000000000
  nsnd : snd.length ≤ 1000000000
  nfl : fl.length ≤ 9223372036854775807

/-- behind i steps of a round -/
structure StepSt (w0 : World) (base : Nat) (P : RunP) (cs : List ChZ) (vf : Value) (j M : Nat) (L : RcL) (r : Rcv) (f1 f2 : List FtZ) (i : Nat) (w : World) : Prop where
  is : RunIs w w0.heap.size P cs vf j
  grew : Grew w0 w
  lo : w0.heap.size ≤ P.gP ∧ w0.heap.size ≤ base ∧ base ≤ w.heap.size ∧ P.bm < w.heap.size
  st : (i = 0 ∧ (∃ v, Blk w P.gP 49 #[v]) ∧ RcvIs w base P.g M L r ∧ ¬ L.F r P.g P.bm) ∨
    (1 ≤ i ∧ i ≤ 4 ∧ RcvIs w base P.g M L r ∧ ¬ L.F r P.g P.bm ∧ ∃ (A : Option Addr) (c : Nat) (ql : List Pk) (bp : Nat), Blk w P.gP 49 #[.slice A ql.length c] ∧ PksIs w bp A c ql ∧ bp ≤ w.heap.size ∧ ql.map Pk.z = zsAt cs r f1 f2 i ∧ (∀ k, L.F r P.g k → k < bp)) ∨
    (i = 5 ∧ ∃ M' L', M' ≤ M + 8000 ∧ RcvIs w base P.g M' L' (roundR cs r f1 f2) ∧ (∃ v, Blk w P.gP 49 #[v]) ∧ ¬ L'.F (roundR cs r f1 f2) P.g P.bm)
section
variable {w0 w w' : World} {base j M i : Nat} {P : RunP} {cs : List ChZ} {vf : Value} {L : RcL} {r : Rcv} {f1 f2 : List FtZ}
theorem StepSt.mid (h : StepSt w0 base P cs vf j M L r f1 f2 i w) (h1 : 1 ≤ i) (h4 : i ≤ 4) : RcvIs w base P.g M L r ∧ ¬ L.F r P.g P.bm ∧ ∃ (A : Option Addr) (c : Nat) (ql : List Pk) (bp : Nat), Blk w P.gP 49 #[.slice A ql.length c] ∧ PksIs w bp A c ql ∧ bp ≤ w.heap.size ∧ ql.map Pk.z = zsAt cs r f1 f2 i ∧ (∀ k, L.F r P.g k → k < bp) := by
  rcases h.st with ⟨e, _⟩ | ⟨_, _, hr⟩ | ⟨e, _⟩
  · omega
  · exact hr
  · omega
/-- a step puts packets -/
theorem StepSt.put (h : StepSt w0 base P cs vf j M L r f1 f2 i w) (hi : i ≤ 3) {e : Ending} (hp : PutRes P.gP (zsAt cs r f1 f2 (i + 1)) w e w') : e = .returned (.tuple #[]) ∧ StepSt w0 base P cs vf j M L r f1 f2 (i + 1) w' := by
  obtain ⟨A, c, ql, he, hz, hB, hI, hc⟩ := hp
  have hR : RcvIs w base P.g M L r ∧ ¬ L.F r P.g P.bm ∧ ∃ v, Blk w P.gP 49 #[v] := by
    rcases h.st with ⟨_, hv, hr, hn⟩ | ⟨_, _, hr, hn, _, _, _, _, hb, _⟩ | ⟨e5, _⟩
    · exact ⟨hr, hn, hv⟩
    · exact ⟨hr, hn, _, hb⟩
    · omega
  obtain ⟨hr, hn, v, hv⟩ := hR
  have hl := h.lo
  have hs := hc.size
  refine ⟨he, h.is.put hv hc, Below.trans (B := w0.heap.size) h.grew (hc.below h.grew.size (fun q hq => by have h2 : q = P.gP := hq; omega)), ⟨hl.1, hl.2.1, by omega, by omega⟩, .inr (.inl ⟨by omega, by omega, hr.chB hc hv (by decide) (by decide) (by decide), hn, A, c, ql, w.heap.size, hB, hI, hs, hz, hr.Flt⟩)⟩
theorem StepSt.take (h : StepSt w0 base P cs vf j M L r f1 f2 4 w) {e : Ending} (hb : base ≤ w.heap.size) (hlen : (zsAt cs r f1 f2 4).length ≤ 4000) (hT : TakeAllRes base P.g M (zsAt cs r f1 f2 4).length L r (zsAt cs r f1 f2 4) w e w') : e = .returned (.tuple #[]) ∧ StepSt w0 base P cs vf j M L r f1 f2 5 w' := by
  obtain ⟨L', he, S⟩ := hT
  obtain ⟨hr, hn, A, c, ql, bp, hB, hI, hbp, hz, hF⟩ := h.mid (by omega) (by omega)
  have hl := h.lo
  have hs := S.ch.size
  have hnP : ¬ L.F r P.g P.gP := hr.notF hB (by decide) (by decide) (by decide)
  refine ⟨he, h.is.took hr hn S.ch, ?_, ⟨hl.1, hl.2.1, by omega, by omega⟩, .inr (.inr ⟨rfl, M + 2 * (zsAt cs r f1 f2 4).length, L', by omega, S.is, ⟨_, hB.ch S.ch hnP⟩, fun h5 => ?_⟩)⟩
  · exact Below.trans (B := w0.heap.size) h.grew ((S.below hr hb).mono hl.2.1)
  · rcases S.fr _ h5 with h6 | h6
    · exact hn h6
    · omega
variable {Ai Ah As AF : Option Addr} {ids : List IdZ} {hs : List ChZ} {fl : List Fts} {fc : Nat}
theorem step0 (h : StepSt w0 base P cs vf j M L r f1 f2 0 w) (ok : RcOk r) : Calls Try.prog 49 #[.pointer (some ⟨P.gR, 0, none⟩), .pointer (some ⟨P.gP, 0, none⟩)] w fun e w' => e = .returned (.tuple #[]) ∧ StepSt w0 base P cs vf j M L r f1 f2 1 w' := by
  rcases h.st with ⟨_, ⟨v, hv⟩, hr, hn⟩ | ⟨e1, _⟩ | ⟨e5, _⟩
  · exact (stepAsk_any P.gR P.gP v w h.is.rb hv hr ok).mono fun e w' hp => h.put (by omega) hp
  · omega
  · omega
theorem step1 (h : StepSt w0 base P cs (.slice AF fl.length fc) j M L r (ofF (fl.map Fts.fs) (2 * j)) f2 1 w) (ok : RcOk r) (hI : RunIn w0 Ai ids Ah hs As cs AF fl) (hO : RunOk ids hs cs fl) (hj : j ≤ 1024) :
    Calls Try.prog 50 #[.pointer (some ⟨P.gP, 0, none⟩), .pointer (some ⟨P.gF, 0, none⟩), .pointer (some ⟨P.gN, 0, none⟩)] w fun e w' => e = .returned (.tuple #[]) ∧ StepSt w0 base P cs (.slice AF fl.length fc) j M L r (ofF (fl.map Fts.fs) (2 * j)) f2 2 w' := by
  obtain ⟨hr, hn, A, c, ql, bp, hB, hP, hbp, hz, hF⟩ := h.mid (by omega) (by omega)
  have hz1 := mem_z hz (zsAt_ok ok hO.osnd 1)
  have hIw := hI.up h.grew
  have hq := len_z hz
  have ha : (askZ r).length ≤ 1024 := by unfold askZ; rw [List.length_map]; exact ok.len.2.2.1
  have hq2 : ql.length = (askZ r).length := hq
  have hf := ofP_mem (fl := fl) (k := 2 * j) (Q := fun f => Row w w.heap.size f.A (ftsC f.fs) ∧ (∀ x ∈ f.fs, FtOk x) ∧ f.fs.length ≤ 1000) ⟨.nil, fun x hx => (by cases hx), Nat.zero_le _⟩ (fun f hf => ⟨hIw.rfs f hf, (hO.ofs f hf).1, (hO.ofs f hf).2⟩)
  refine (stepCarry_any P.gP P.gF P.gN j fc c AF A fl ql w hB h.is.fb h.is.nb (own_row hP.row) (hP.in_ hz1) hIw.rfl ⟨hf.1, hf.2.1⟩ (by have := hf.2.2; omega) hO.nfl hj).mono fun e w' hp => h.put (by omega) ?_
  rw [hz, ofP_fs] at hp
  exact hp
theorem step2 (h : StepSt w0 base P cs vf j M L r f1 f2 2 w) (ok : RcOk r) (hI : RunIn w0 Ai ids Ah hs As cs AF fl) (hO : RunOk ids hs cs fl) (h1 : f1.length ≤ 1000) (h2 : f2.length ≤ 1000) :
    Calls Try.prog 52 #[.pointer (some ⟨P.gP, 0, none⟩), .pointer (some ⟨P.gS, 0, none⟩)] w fun e w' => e = .returned (.tuple #[]) ∧ StepSt w0 base P cs vf j M L r f1 f2 3 w' := by
  obtain ⟨hr, hn, A, c, ql, bp, hB, hP, hbp, hz, hF⟩ := h.mid (by omega) (by omega)
  have hz1 := mem_z hz (zsAt_ok ok hO.osnd 2)
  have hIw := hI.up h.grew
  have hq := len_z hz
  have hl := zsAt_length (cs := cs) ok h1 h2 2
  refine (stepAnswer_any P.gP P.gS c P.gC P.bm P.N A ql cs w hB h.is.sb (own_row hP.row) ⟨h.is.cb, h.is.mp, hIw.rsin⟩ (fun p hp => (hz1 p hp).1) (by omega)).mono fun e w' hp => h.put (by omega) ?_
  rw [hz] at hp
  exact hp
theorem step3 (h : StepSt w0 base P cs (.slice AF fl.length fc) j M L r f1 (ofF (fl.map Fts.fs) (2 * j + 1)) 3 w) (ok : RcOk r) (hI : RunIn w0 Ai ids Ah hs As cs AF fl) (hO : RunOk ids hs cs fl) (hj : j ≤ 1024) (h1 : f1.length ≤ 1000) :
    Calls Try.prog 54 #[.pointer (some ⟨P.gP, 0, none⟩), .pointer (some ⟨P.gF, 0, none⟩), .pointer (some ⟨P.gN, 0, none⟩)] w fun e w' => e = .returned (.tuple #[]) ∧ StepSt w0 base P cs (.slice AF fl.length fc) j M L r f1 (ofF (fl.map Fts.fs) (2 * j + 1)) 4 w' := by
  obtain ⟨hr, hn, A, c, ql, bp, hB, hP, hbp, hz, hF⟩ := h.mid (by omega) (by omega)
  have hz1 := mem_z hz (zsAt_ok ok hO.osnd 3)
  have hIw := hI.up h.grew
  have hq := len_z hz
  have hf2 := ofF_mem (fs := fl.map Fts.fs) (k := 2 * j + 1) (Q := fun f => f.length ≤ 1000) (Nat.zero_le _) (fun f hf => by
    obtain ⟨g, hg, rfl⟩ := List.mem_map.1 hf
    exact (hO.ofs g hg).2)
  have hl := zsAt_length (cs := cs) ok h1 hf2 3
  have hf := ofP_mem (fl := fl) (k := 2 * j + 1) (Q := fun f => Row w w.heap.size f.A (ftsC f.fs) ∧ (∀ x ∈ f.fs, FtOk x) ∧ f.fs.length ≤ 1000) ⟨.nil, fun x hx => (by cases hx), Nat.zero_le _⟩ (fun f hf => ⟨hIw.rfs f hf, (hO.ofs f hf).1, (hO.ofs f hf).2⟩)
  refine (stepBack_any P.gP P.gF P.gN j fc c AF A fl ql w hB h.is.fb h.is.nb (own_row hP.row) (hP.in_ hz1) hIw.rfl ⟨hf.1, hf.2.1⟩ (by have := hf.2.2; omega) hO.nfl hj).mono fun e w' hp => h.put (by omega) ?_
  rw [hz, ofP_fs] at hp
  exact hp
theorem step4 (h : StepSt w0 base P cs vf j M L r f1 f2 4 w) (ok : RcOk r) (hO : RunOk ids hs cs fl) (h1 : f1.length ≤ 1000) (h2 : f2.length ≤ 1000) (hM : M ≤ 1000000000000) :
    Calls Try.prog 55 #[.pointer (some ⟨P.gR, 0, none⟩), .pointer (some ⟨P.gP, 0, none⟩)] w fun e w' => e = .returned (.tuple #[]) ∧ StepSt w0 base P cs vf j M L r f1 f2 5 w' := by
  obtain ⟨hr, hn, A, c, ql, bp, hB, hP, hbp, hz, hF⟩ := h.mid (by omega) (by omega)
  have hz1 := mem_z hz (zsAt_ok ok hO.osnd 4)
  have hq := len_z hz
  have hl := zsAt_length (cs := cs) ok h1 h2 4
  refine (stepTake_any P.gR P.gP bp c A ql w h.is.rb hB hr ok hP hF (fun p hp => ⟨(hz1 p hp).1, (hz1 p hp).2.1, by have := (hz1 p hp).2.2; omega⟩) (by omega) h.lo.2.2.1 hbp).mono fun e w' hp => h.take h.lo.2.2.1 hl ?_
  rw [hz, hq] at hp
  exact hp
/-- ahead of a round -/
def OutSt (w0 : World) (base : Nat) (P : RunP) (cs : List ChZ) (vf : Value) (FS : List (List FtZ)) (r0 : Rcv) (rounds : Int) (m0 : Nat) (w : World) : Prop :=
  ∃ (j M : Nat) (L : RcL) (r : Rcv) (v : Value), j ≤ 1024 ∧ (∀ i, i < j → (rcvAt cs FS r0 i).miss ≠ [] ∧ (i : Int) < rounds) ∧ r = rcvAt cs FS r0 j ∧ RcOk r ∧ RunIs w w0.heap.size P cs vf j ∧
    Blk w P.gP 49 #[v] ∧ RcvIs w base P.g M L r ∧ ¬ L.F r P.g P.bm ∧ M ≤ m0 + j * 10000 ∧ Grew w0 w
theorem OutSt.next {FS : List (List FtZ)} {r0 : Rcv} {rounds : Int} {m0 : Nat} (h : StepSt w0 base P cs vf j M L r (ofF FS (2 * j)) (ofF FS (2 * j + 1)) 5 w) (hj : j < 1024) (hJ : ∀ i, i < j → (rcvAt cs FS r0 i).miss ≠ [] ∧ (i : Int) < rounds) (hr : r = rcvAt cs FS r0 j) (ok : RcOk r)
    (hc : ∀ c ∈ cs, WfI c.id ∧ Byt c.p.zs) (hm : r.miss ≠ []) (hjr : (j : Int) < rounds) (hM : M ≤ m0 + j * 10000) (hlo : w0.heap.size ≤ P.gN) : OutSt w0 base P cs vf FS r0 rounds m0 (w.setCell ⟨P.gN, 0, none⟩ (.int .i64 ((j : Int) + 1))) := by
  rcases h.st with ⟨e, _⟩ | ⟨_, e, _⟩ | ⟨_, M', L', hM', hR, ⟨v, hv⟩, hn⟩
  · omega
  · omega
  · have k := (Ch.refl (At P.gN) w).set_at 0 (.int .i64 ((j : Int) + 1))
    have hN := h.is.next
    rw [show ((j + 1 : Nat) : Int) = (j : Int) + 1 by omega] at hN
    refine ⟨j + 1, M', L', roundR cs r (ofF FS (2 * j)) (ofF FS (2 * j + 1)), v, by omega, fun i hi => ?_, ?_, ?_, hN, hv.ch k (fun e => hv.ne_ h.is.nb (by decide) e), hR.chB k h.is.nb (by decide) (by decide) (by decide), hn, by omega, Below.trans (B := w0.heap.size) h.grew (k.below h.grew.size (fun q hq => by have h2 : q = P.gN := hq; omega))⟩
    · rcases Nat.lt_or_ge i j with hij | hij
      · exact hJ i hij
      · obtain rfl : i = j := by omega
        exact ⟨by rw [← hr]; exact hm, hjr⟩
    · rw [hr]; rfl
    · rw [roundR_zs]
      exact ok.takeAll (fun p hp => (zsAt_ok ok hc 4 p hp).2.1)
theorem cellInt_next {g j : Nat} (h : Blk w g 3 #[.int .i64 (j : Nat)]) : cellInt (w.setCell ⟨g, 0, none⟩ (.int .i64 ((j : Int) + 1))) ⟨g, 0, none⟩ = j + 1 := by
  have h2 := (h.set_ 0 (.int .i64 ((j : Int) + 1))).cell 0
  unfold cellInt
  rw [h2]
  simp
end
end
end Go.Proofs.Ytpoiejgoongllaa
