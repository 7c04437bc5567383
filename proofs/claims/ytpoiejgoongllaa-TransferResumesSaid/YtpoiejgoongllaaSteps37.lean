/-
  The steps of a round: the closures of transfer.Run.
-/
import Derived.Test.YtpoiejgoongllaaAnsw37
namespace Go.Proofs.Ytpoiejgoongllaa
section
set_option linter.unusedVariables false
set_option linter.unusedSimpArgs false
set_option linter.unnecessarySimpa false
open Go.RowKit
attribute [local go_sem ↓] Go.wp_at_zero Go.wp_at_succ

/-- a step puts packets into their box -/
def PutRes (gp : Nat) (zs : List PkZ) (w : World) (e : Ending) (w' : World) : Prop := ∃ (A : Option Addr) (c : Nat) (ql : List Pk), e = .returned (.tuple #[]) ∧ ql.map Pk.z = zs ∧ Blk w' gp 49 #[.slice A ql.length c] ∧ PksIs w' w.heap.size A c ql ∧ Ch (At gp) w w'
theorem PutRes.mk_ {gp c : Nat} {A : Option Addr} {ql : List Pk} {zs : List PkZ} {w w' : World} {v : Value} (hg : Blk w gp 49 #[v]) (hz : ql.map Pk.z = zs) (hI : PksIs w' w.heap.size A c ql) (hb : Grew w w') :
    PutRes gp zs w (.returned (.tuple #[])) (w'.setCell ⟨gp, 0, none⟩ (.slice A ql.length c)) := by
  have hl := hg.lt
  have k := (Ch.refl (At gp) w').set_at 0 (.slice A ql.length c)
  refine ⟨A, c, ql, rfl, hz, (hg.of hb).set_ 0 _, ⟨own_ch hI.row k (fun q hq h => ?_), hI.own.ch k (fun x hx q hq h => ?_)⟩, (Ch.of_below hb).trans k⟩
  · have h1 := own_lt hI.row q hq; have h2 : q = gp := h; omega
  · have h1 := (hI.own.lt hx q hq).1; have h2 : q = gp := h; omega
theorem askP_own (w : World) (base : Nat) (r : Rcv) (l : List IdZ) : PkOwn w base (askP r l) := by
  have h : ∀ x ∈ askP r l, x.p = ⟨none, 0, []⟩ := fun x hx => by
    unfold askP at hx
    obtain ⟨y, _, rfl⟩ := List.mem_map.1 hx
    rfl
  refine ⟨fun x hx => by rw [h x hx]; exact World.ownsRow_nil _ _ _ _, ?_⟩
  rw [List.pairwise_iff_getElem]
  intro i j hi hj hij k hk
  rw [h _ (List.getElem_mem hi)] at hk
  cases hk
set_option maxRecDepth 100000 in
set_option maxHeartbeats 1000000 in
theorem stepAsk_any {base g M : Nat} {L : RcL} {r : Rcv} (gr gp : Nat) (v : Value) (w : World) (hr : Blk w gr 45 #[.pointer (some ⟨g, 0, none⟩)]) (hp : Blk w gp 49 #[v]) (h : RcvIs w base g M L r) (ok : RcOk r) :
    Calls Try.prog 49 #[.pointer (some ⟨gr, 0, none⟩), .pointer (some ⟨gp, 0, none⟩)] w (PutRes gp (askZ r) w) := by
  have r0 := (hr.cell 0).trans (show _ = some (.pointer (some ⟨g, 0, none⟩)) from rfl)
  obtain ⟨_, _, _, _, c4, _⟩ := h.cells
  have HH := Lib.hid h
  have OK := Lib.hid ok
  have HP := Lib.hid hp
  have hml := ok.len.2.2.1
  clear hr hp h ok
  go_enter Try.func49, Try.ntmps49
  go_upto_region 0 with (fail)
  refine wp_region_g 6 (by kernel_rfl) ?_
  refine AllC.head 0 6 (fuel := 2) (by first | exact fun h k => Grew.trans h k | exact fun h k => cls_grew h k) (grew_drew _) (by rfl) (by kernel_rfl) ?_
  simp only [List.take_succ_cons, List.take_zero, List.drop_succ_cons, List.drop_zero]
  repeat (first
    | (refine HeadC.val (by rfl) ?_
       apply Exists.intro
       refine ⟨fun w' hw' => ?_, ?_⟩
       · (have hf_0 := cell_up hw' r0; have hf_1 := cell_up hw' c4; (go_simp) <;> (try go_ints) <;> with_reducible rfl)
       try simp only [Act.put, List.setIfInBounds_toArray, List.set_cons_zero, List.set_cons_succ])
    | (refine HeadC.shut (by rfl) ?_
       try simp only [Act.put, List.setIfInBounds_toArray, List.set_cons_zero, List.set_cons_succ]))
  refine HeadC.nil ?_
  refine AllC.tail 6 (by rfl) (by kernel_rfl) ?_
  intro wt hwt
  simp only [List.drop_succ_cons, List.drop_zero]
  have hg1 : Grew w wt := (grew_drew w).trans hwt
  have HA := ask37_any (r.miss.length : Int) wt (HH.out.of hg1) OK.out
  rw [askL_all (r := r) (most := (r.miss.length : Int)) (Int.le_refl _)] at HA
  have HA' := Lib.hid HA
  have hs1 := hg1.size
  have HG := Lib.hid hg1
  clear HA hg1 hwt r0 c4
  go_wp2_with fail
  refine HA'.out.mono ?_
  clear HA'
  rintro e w2 ⟨A, c, rfl, hown, hg⟩
  have hg2 := HG.out.trans hg
  have f0 := (HP.out.of hg2).frozen 0
  have p0 := (HP.out.of hg2).cell 0
  simp only [List.getElem?_toArray, List.getElem?_cons_zero] at p0
  have HR := Lib.hid (PutRes.mk_ HP.out (askZ_eq r) (⟨own_mono hown hs1, askP_own w2 w.heap.size r r.miss⟩ : PksIs w2 w.heap.size A c (askP r r.miss)) hg2)
  clear hown hg hg2
  go_wp2_with fail
  refine bodyPost_ret (v := .tuple #[]) ?_ rfl HR.out
  simp [results, Try.results49, go_sem]
set_option maxRecDepth 100000 in
set_option maxHeartbeats 1000000 in
theorem stepCarry_any (gp gf gn n fc c : Nat) (AF A : Option Addr) (fl : List Fts) (ql : List Pk) (w : World) (hp : Blk w gp 49 #[.slice A ql.length c]) (hf : Blk w gf 36 #[.slice AF fl.length fc]) (hn : Blk w gn 3 #[.int .i64 n])
    (hr : Row w w.heap.size A (pksC ql)) (hin : PksIn w ql) (hrf : Row w w.heap.size AF (fl.map Fts.v)) (hok : Row w w.heap.size (ofP fl (2 * n)).A (ftsC (ofP fl (2 * n)).fs) ∧ ∀ f ∈ (ofP fl (2 * n)).fs, FtOk f) (hl : ql.length + (ofP fl (2 * n)).fs.length ≤ 16777215) (hfl : fl.length ≤ 9223372036854775807) (hn2 : n ≤ 1024) :
    Calls Try.prog 50 #[.pointer (some ⟨gp, 0, none⟩), .pointer (some ⟨gf, 0, none⟩), .pointer (some ⟨gn, 0, none⟩)] w (PutRes gp (carryZ (ql.map Pk.z) (ofP fl (2 * n)).fs) w) := by
  have p0 := (hp.cell 0).trans (show _ = some (.slice A ql.length c) from rfl)
  have q0 := (hf.cell 0).trans (show _ = some (.slice AF fl.length fc) from rfl)
  have n0 := (hn.cell 0).trans (show _ = some (.int .i64 n) from rfl)
  have HP := Lib.hid hp
  have HC := Lib.hid (fun W (hg : Grew w W) => carry37_any A c ql (ofP fl (2 * n)).A (ofP fl (2 * n)).cap (ofP fl (2 * n)).fs W ((hr.up hg (Nat.le_refl _)).more hg.size) (hin.up hg) ((hok.1.up hg (Nat.le_refl _)).more hg.size) hok.2 hl)
  have HF := Lib.hid (fun W (hg : Grew w W) => grew_same (faultsOf_any AF fc W.heap.size (2 * n) fl W ((hrf.up hg (Nat.le_refl _)).more hg.size) hfl))
  have e2 : ((2 * n : Nat) : Int) = 2 * (n : Int) := by omega
  simp only [e2] at HF
  clear hp hf hn hr hin hrf hok hl e2
  generalize ofP fl (2 * n) = P at *
  go_enter Try.func50, Try.ntmps50
  go_upto_region 0 with (fail)
  refine wp_region_g 5 (by kernel_rfl) ?_
  refine AllC.head 0 5 (fuel := 2) (by first | exact fun h k => Grew.trans h k | exact fun h k => cls_grew h k) (grew_drew _) (by rfl) (by kernel_rfl) ?_
  simp only [List.take_succ_cons, List.take_zero, List.drop_succ_cons, List.drop_zero]
  repeat (first
    | (refine HeadC.val (by rfl) ?_
       apply Exists.intro
       refine ⟨fun w' hw' => ?_, ?_⟩
       · (have hf_0 := cell_up hw' p0; have hf_1 := cell_up hw' q0; have hf_2 := cell_up hw' n0; (go_simp) <;> (try go_ints) <;> with_reducible rfl)
       try simp only [Act.put, List.setIfInBounds_toArray, List.set_cons_zero, List.set_cons_succ])
    | (refine HeadC.call (by rfl) ?_
       apply Exists.intro; apply Exists.intro
       refine ⟨fun w' hw' => ?_, ?_⟩
       · (have hf_0 := cell_up hw' p0; have hf_1 := cell_up hw' q0; have hf_2 := cell_up hw' n0; (go_simp) <;> first | (refine ⟨?_, ?_⟩ <;> with_reducible rfl) | with_reducible rfl)
       apply Exists.intro
       refine ⟨fun w' hw' => ?_, ?_⟩
       · (first | exact HF.out w' hw')
       try simp only [Act.put, List.setIfInBounds_toArray, List.set_cons_zero, List.set_cons_succ])
    | (refine HeadC.shut (by rfl) ?_
       try simp only [Act.put, List.setIfInBounds_toArray, List.set_cons_zero, List.set_cons_succ]))
  refine HeadC.nil ?_
  refine AllC.tail 5 (by rfl) (by kernel_rfl) ?_
  intro wt hwt
  simp only [List.drop_succ_cons, List.drop_zero]
  have hg1 : Grew w wt := (grew_drew w).trans hwt
  have HA' := Lib.hid (HC.out wt hg1)
  have hs1 := hg1.size
  have HG := Lib.hid hg1
  clear hg1 hwt p0 q0 n0 HC HF
  go_wp2_with fail
  refine HA'.out.mono ?_
  clear HA'
  rintro e w2 ⟨A2, c2, q2, rfl, hz, hI, hg⟩
  have hg2 := HG.out.trans hg
  have f0 := (HP.out.of hg2).frozen 0
  have p0 := (HP.out.of hg2).cell 0
  simp only [List.getElem?_toArray, List.getElem?_cons_zero] at p0
  have HR := Lib.hid (PutRes.mk_ HP.out hz (⟨own_mono hI.row hs1, hI.own.mono hs1⟩ : PksIs w2 w.heap.size A2 c2 q2) hg2)
  clear hI hg hg2 hz
  go_wp2_with fail
  refine bodyPost_ret (v := .tuple #[]) ?_ rfl HR.out
  simp [results, Try.results50, go_sem]
set_option maxRecDepth 100000 in
set_option maxHeartbeats 1000000 in
theorem stepBack_any (gp gf gn n fc c : Nat) (AF A : Option Addr) (fl : List Fts) (ql : List Pk) (w : World) (hp : Blk w gp 49 #[.slice A ql.length c]) (hf : Blk w gf 36 #[.slice AF fl.length fc]) (hn : Blk w gn 3 #[.int .i64 n])
    (hr : Row w w.heap.size A (pksC ql)) (hin : PksIn w ql) (hrf : Row w w.heap.size AF (fl.map Fts.v)) (hok : Row w w.heap.size (ofP fl (2 * n + 1)).A (ftsC (ofP fl (2 * n + 1)).fs) ∧ ∀ f ∈ (ofP fl (2 * n + 1)).fs, FtOk f) (hl : ql.length + (ofP fl (2 * n + 1)).fs.length ≤ 16777215) (hfl : fl.length ≤ 9223372036854775807) (hn2 : n ≤ 1024) :
    Calls Try.prog 54 #[.pointer (some ⟨gp, 0, none⟩), .pointer (some ⟨gf, 0, none⟩), .pointer (some ⟨gn, 0, none⟩)] w (PutRes gp (carryZ (ql.map Pk.z) (ofP fl (2 * n + 1)).fs) w) := by
  have p0 := (hp.cell 0).trans (show _ = some (.slice A ql.length c) from rfl)
  have q0 := (hf.cell 0).trans (show _ = some (.slice AF fl.length fc) from rfl)
  have n0 := (hn.cell 0).trans (show _ = some (.int .i64 n) from rfl)
  have HP := Lib.hid hp
  have HC := Lib.hid (fun W (hg : Grew w W) => carry37_any A c ql (ofP fl (2 * n + 1)).A (ofP fl (2 * n + 1)).cap (ofP fl (2 * n + 1)).fs W ((hr.up hg (Nat.le_refl _)).more hg.size) (hin.up hg) ((hok.1.up hg (Nat.le_refl _)).more hg.size) hok.2 hl)
  have HF := Lib.hid (fun W (hg : Grew w W) => grew_same (faultsOf_any AF fc W.heap.size (2 * n + 1) fl W ((hrf.up hg (Nat.le_refl _)).more hg.size) hfl))
  have e2 : ((2 * n + 1 : Nat) : Int) = 2 * (n : Int) + 1 := by omega
  simp only [e2] at HF
  clear hp hf hn hr hin hrf hok hl e2
  generalize ofP fl (2 * n + 1) = P at *
  go_enter Try.func54, Try.ntmps54
  go_upto_region 0 with (fail)
  refine wp_region_g 6 (by kernel_rfl) ?_
  refine AllC.head 0 6 (fuel := 2) (by first | exact fun h k => Grew.trans h k | exact fun h k => cls_grew h k) (grew_drew _) (by rfl) (by kernel_rfl) ?_
  simp only [List.take_succ_cons, List.take_zero, List.drop_succ_cons, List.drop_zero]
  repeat (first
    | (refine HeadC.val (by rfl) ?_
       apply Exists.intro
       refine ⟨fun w' hw' => ?_, ?_⟩
       · (have hf_0 := cell_up hw' p0; have hf_1 := cell_up hw' q0; have hf_2 := cell_up hw' n0; (go_simp) <;> (try go_ints) <;> with_reducible rfl)
       try simp only [Act.put, List.setIfInBounds_toArray, List.set_cons_zero, List.set_cons_succ])
    | (refine HeadC.call (by rfl) ?_
       apply Exists.intro; apply Exists.intro
       refine ⟨fun w' hw' => ?_, ?_⟩
       · (have hf_0 := cell_up hw' p0; have hf_1 := cell_up hw' q0; have hf_2 := cell_up hw' n0; (go_simp) <;> first | (refine ⟨?_, ?_⟩ <;> with_reducible rfl) | with_reducible rfl)
       apply Exists.intro
       refine ⟨fun w' hw' => ?_, ?_⟩
       · (first | exact HF.out w' hw')
       try simp only [Act.put, List.setIfInBounds_toArray, List.set_cons_zero, List.set_cons_succ])
    | (refine HeadC.shut (by rfl) ?_
       try simp only [Act.put, List.setIfInBounds_toArray, List.set_cons_zero, List.set_cons_succ]))
  refine HeadC.nil ?_
  refine AllC.tail 6 (by rfl) (by kernel_rfl) ?_
  intro wt hwt
  simp only [List.drop_succ_cons, List.drop_zero]
  have hg1 : Grew w wt := (grew_drew w).trans hwt
  have HA' := Lib.hid (HC.out wt hg1)
  have hs1 := hg1.size
  have HG := Lib.hid hg1
  clear hg1 hwt p0 q0 n0 HC HF
  go_wp2_with fail
  refine HA'.out.mono ?_
  clear HA'
  rintro e w2 ⟨A2, c2, q2, rfl, hz, hI, hg⟩
  have hg2 := HG.out.trans hg
  have f0 := (HP.out.of hg2).frozen 0
  have p0 := (HP.out.of hg2).cell 0
  simp only [List.getElem?_toArray, List.getElem?_cons_zero] at p0
  have HR := Lib.hid (PutRes.mk_ HP.out hz (⟨own_mono hI.row hs1, hI.own.mono hs1⟩ : PksIs w2 w.heap.size A2 c2 q2) hg2)
  clear hI hg hg2 hz
  go_wp2_with fail
  refine bodyPost_ret (v := .tuple #[]) ?_ rfl HR.out
  simp [results, Try.results54, go_sem]
set_option maxRecDepth 100000 in
set_option maxHeartbeats 1000000 in
theorem stepAnswer_any (gp gs c gb bm N : Nat) (A : Option Addr) (ql : List Pk) (cs : List ChZ) (w : World) (hp : Blk w gp 49 #[.slice A ql.length c]) (hs : Blk w gs 96 #[.func (Fn.func 47) #[] #[.pointer (some ⟨gb, 0, none⟩)]])
    (hr : Row w w.heap.size A (pksC ql)) (hsn : SndIs w gb bm N cs) (hwf : ∀ p ∈ ql, WfI p.id) (hn : ql.length ≤ 16777215) :
    Calls Try.prog 52 #[.pointer (some ⟨gp, 0, none⟩), .pointer (some ⟨gs, 0, none⟩)] w (PutRes gp (answersZ cs (ql.map Pk.z)) w) := by
  have p0 := (hp.cell 0).trans (show _ = some (.slice A ql.length c) from rfl)
  have s0 := (hs.cell 0).trans (show _ = some (.func (Fn.func 47) #[] #[.pointer (some ⟨gb, 0, none⟩)]) from rfl)
  have HP := Lib.hid hp
  have HA' := Lib.hid (answers37_any A c gb bm N ql cs w hr hsn hwf hn)
  clear hp hs hr hsn
  go_enter Try.func52, Try.ntmps52
  go_wp2_with fail
  refine HA'.out.mono ?_
  clear HA' p0 s0
  rintro e w2 ⟨A2, c2, q2, rfl, hz, hI, hg⟩
  have f0 := (HP.out.of hg).frozen 0
  have p0 := (HP.out.of hg).cell 0
  simp only [List.getElem?_toArray, List.getElem?_cons_zero] at p0
  have HR := Lib.hid (PutRes.mk_ HP.out hz hI hg)
  clear hI hg hz
  go_wp2_with fail
  refine bodyPost_ret (v := .tuple #[]) ?_ rfl HR.out
  simp [results, Try.results52, go_sem]
set_option maxRecDepth 100000 in
set_option maxHeartbeats 1000000 in
theorem stepTake_any {base g M : Nat} {L : RcL} {r : Rcv} (gr gp bp c : Nat) (A : Option Addr) (ql : List Pk) (w : World) (hr : Blk w gr 45 #[.pointer (some ⟨g, 0, none⟩)]) (hpb : Blk w gp 49 #[.slice A ql.length c])
    (h : RcvIs w base g M L r) (ok : RcOk r) (hp : PksIs w bp A c ql) (hF : ∀ k, L.F r g k → k < bp)
    (hwf : ∀ p ∈ ql, WfI p.id ∧ Byt p.p.zs ∧ p.p.zs.length ≤ 4611686018427387904) (hM : M + 2 * ql.length ≤ 1125899906842624) (hbase : base ≤ w.heap.size) (hbp : bp ≤ w.heap.size) :
    Calls Try.prog 55 #[.pointer (some ⟨gr, 0, none⟩), .pointer (some ⟨gp, 0, none⟩)] w (TakeAllRes base g M ql.length L r (ql.map Pk.z) w) := by
  have r0 := (hr.cell 0).trans (show _ = some (.pointer (some ⟨g, 0, none⟩)) from rfl)
  have p0 := (hpb.cell 0).trans (show _ = some (.slice A ql.length c) from rfl)
  have HT := Lib.hid (takeAll37_any A c bp ql w h ok hp hF hwf hM hbase hbp)
  clear hr hpb h ok hp hF hwf
  go_enter Try.func55, Try.ntmps55
  go_wp2_with fail
  refine HT.out.mono ?_
  clear HT r0 p0
  rintro e w2 ⟨L', rfl, S⟩
  have HS := Lib.hid S
  clear S
  go_wp2_with fail
  refine bodyPost_ret (v := .tuple #[]) ?_ rfl ⟨L', rfl, HS.out⟩
  simp [results, Try.results55, go_sem]
end
end Go.Proofs.Ytpoiejgoongllaa
