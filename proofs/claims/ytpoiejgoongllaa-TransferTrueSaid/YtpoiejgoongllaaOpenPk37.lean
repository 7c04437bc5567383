/-
  Arguments that came in as slices of packets or of faults, opened to cells; what the second form's bound says of them.
-/
import Derived.Test.YtpoiejgoongllaaOpen
import Derived.Test.YtpoiejgoongllaaBulk
import Derived.Test.YtpoiejgoongllaaChan37
import Derived.Lib.SmallJoins
import Derived.Deep.Strs
namespace Go.Proofs.Ytpoiejgoongllaa
set_option linter.unusedVariables false
set_option linter.unusedSimpArgs false
set_option linter.unnecessarySimpa false
open Go.ChangeShapes Go.WideShapes Go.ChangeAt Go.RowKit Go.Joins Go.Deep

theorem bulk_mem {H : Type} {l : List (DataW H)} {d : DataW H} (h : d ∈ l) : Rows.uptoBulk d ≤ Rows.uptoBulkAll l := by
  obtain ⟨j, hj, rfl⟩ := List.getElem_of_mem h
  exact bulk_at (List.getElem?_eq_getElem hj)
theorem bulk_ds {H : Type} {ds : List (DataW H)} (hk : Rows.uptoSmall H ds = true) {j : Nat} {d : DataW H} (hd : ds[j]? = some d) : Rows.uptoBulk d ≤ 1048576 := Nat.le_trans (bulk_at hd) (bulk_bound hk)

/-- a slice of elements whose cells are f of something good; K of each is at most the reading's bulk -/
theorem open_rowsK {H : Type} {enc : TypeId × Value → H} {P : Program} {W : World} {r : Reach} {b0 : Nat} {t e : TypeId} {α : Type} {f : α → List Value} {Good : α → Prop} {K : α → Nat} {c : Nat} {v : Value} {d : DataW H} {p : List MemPlace}
    (ht : P.underlying t = some (.slice e)) (hc : P.cellsOf e = c) (hc0 : 0 < c) (hf : ∀ a, (f a).length = c)
    (hel : ∀ n cs' y, DataW.trod enc P W 0 (fun _ => true) true n e cs' = some y → (∀ x ∈ y.2, x.block < W.heap.size) → ∃ a, cs' = f a ∧ Good a ∧ K a ≤ Rows.uptoBulk y.1)
    (hv : Value.okWide P W r b0 t v) (h : DataW.Trod enc P W 0 (fun _ => true) true t v d p) (hp : ∀ x ∈ p, x.block < W.heap.size) :
    ∃ (A : Option Addr) (cap : Nat) (l : List α), v = .slice A l.length cap ∧ Row W W.heap.size A (l.flatMap f) ∧ (∀ a ∈ l, Good a) ∧ l.length ≤ cap ∧ cap ≤ maxLen ∧
      (d = .nil ∧ l = [] ∨ ∃ el sp, d = .slice el sp ∧ el.length = l.length) ∧ (∀ a ∈ l, K a ≤ Rows.uptoBulk d) ∧ l.length ≤ Rows.uptoBulk d := by
  obtain ⟨a0, len0, cap0, rfl⟩ := okWide_slice ht hv
  obtain ⟨fuel, hf'⟩ := h
  rcases open_slice ht hf' with ⟨hcs, hx⟩ | ⟨a, len, cap, m, n, D, Pl, hcs, _, hl, hm, hmm, hx, hi⟩
  · injection hx with hd
    simp [Value.cells] at hcs
    obtain ⟨rfl, rfl, rfl⟩ := hcs
    exact ⟨none, 0, [], rfl, Row.nil, by simp, Nat.le_refl _, by unfold maxLen; omega, .inl ⟨hd, rfl⟩, by simp, by simp⟩
  · injection hx with hd hpl
    simp [Value.cells] at hcs
    obtain ⟨rfl, rfl, rfl⟩ := hcs
    have hlm : len0 ≤ m := by rw [hmm]; split <;> omega
    have hch : ∀ i : Fin len0, ∃ b : α, (∃ cs', W.cells? 0 (a.add (i * c)) c = some cs' ∧ cs' = f b) ∧ Good b ∧ K b ≤ Rows.uptoBulk (D i) := fun i => by
      obtain ⟨cs', h1, h2⟩ := hi i (by have := i.2; omega)
      rw [hc] at h1
      obtain ⟨b, hb, hg, hk⟩ := hel n cs' _ h2 (fun x hx' => hp x (by
        rw [hpl]
        exact List.mem_append.2 (.inr (List.mem_flatMap.2 ⟨i, List.mem_range.2 (by have := i.2; omega), hx'⟩))))
      exact ⟨b, ⟨cs', h1, hb⟩, hg, hk⟩
    let g : Fin len0 → α := fun i => Classical.choose (hch i)
    have hg : ∀ i : Fin len0, (∃ cs', W.cells? 0 (a.add (i * c)) c = some cs' ∧ cs' = f (g i)) ∧ Good (g i) ∧ K (g i) ≤ Rows.uptoBulk (D i) := fun i => Classical.choose_spec (hch i)
    have hll : (List.ofFn g).length = len0 := List.length_ofFn
    refine ⟨some a, cap0, List.ofFn g, by rw [hll], ?_, fun b hb => ?_, by rw [hll]; exact hl, hm, .inr ⟨_, _, hd, by rw [hll]; simp⟩, fun b hb => ?_, ?_⟩
    · rcases Nat.eq_zero_or_pos len0 with h0 | h0
      · left
        apply List.eq_nil_of_length_eq_zero
        rw [flatMap_len hf, hll, h0, Nat.zero_mul]
      · refine .inr ⟨a, rfl, ?_, fun j hj => ?_⟩
        · have hmc : 0 < m * P.cellsOf e := by rw [hc]; exact Nat.mul_pos (by omega) hc0
          have := hp (.cell a.block (a.off + 0)) (by rw [hpl]; exact List.mem_append.2 (.inl (by unfold MemPlace.row; exact List.mem_map.2 ⟨0, List.mem_range.2 hmc, rfl⟩)))
          exact this
        · rw [flatMap_len hf, hll] at hj
          have hi2 : j / c < len0 := (Nat.div_lt_iff_lt_mul hc0).2 hj
          have hr := Nat.mod_lt j hc0
          have hdm : j / c * c + j % c = j := by rw [Nat.mul_comm]; exact Nat.div_add_mod j c
          obtain ⟨⟨cs', h1, h2⟩, _⟩ := hg ⟨j / c, hi2⟩
          obtain ⟨_, _, hat⟩ := World.cells?_some h1
          have := hat (j % c) hr
          rw [Go.Deep.add_add] at this
          simp only at this
          rw [hdm] at this
          rw [this, h2]
          have hgt := flatMap_get hf (List.ofFn g) (j / c) (j % c) (by rw [hll]; exact hi2) hr
          rw [hdm] at hgt
          rw [hgt, List.getElem_ofFn]
    · obtain ⟨i, rfl⟩ := (List.mem_ofFn).1 hb
      exact (hg i).2.1
    · obtain ⟨i, rfl⟩ := (List.mem_ofFn).1 hb
      have h1 := (hg i).2.2
      have h2 : Rows.uptoBulk (D i) ≤ Rows.uptoBulkAll ((List.range len0).map D) := bulk_mem (List.mem_map.2 ⟨i, List.mem_range.2 i.2, rfl⟩)
      rw [hd]
      simp only [Rows.uptoBulk]
      omega
    · rw [hll, hd]
      have h2 := bulk_len ((List.range len0).map D)
      rw [List.length_map, List.length_range] at h2
      simp only [Rows.uptoBulk]
      omega

/-- a slice of bytes within a struct, its length against its reading -/
theorem open_bytesK {H : Type} {enc : TypeId × Value → H} {W : World} {n : Nat} {cs : List Value} {y : DataW H × List MemPlace} (h : DataW.trod enc Try.prog W 0 (fun _ => true) true n 38 cs = some y) (hp : ∀ x ∈ y.2, x.block < W.heap.size) :
    ∃ p : Part, cs = [p.v] ∧ Row W W.heap.size p.A (p.zs.map (.int .u8)) ∧ Byt p.zs ∧ p.zs.length ≤ p.cap ∧ p.cap ≤ maxLen ∧ p.zs.length ≤ Rows.uptoBulk y.1 := by
  obtain ⟨d, pl⟩ := y
  obtain ⟨A, cap, zs, rfl, hr, hg, hl, hm, hd⟩ := open_rows (f := fun z : Int => [Value.int .u8 z]) (Good := fun z => 0 ≤ z ∧ z ≤ 255) (c := 1) Try.underlying38 (by kernel_rfl) (by omega) (fun _ => rfl)
    (fun n cs' y h' _ => by
      obtain ⟨z, e, _, wz⟩ := DataW.trod_int Try.underlying5 h'
      simp [Lit.wf, IntKind.min, IntKind.max, IntKind.signed, IntKind.bits] at wz
      exact ⟨z, e, wz.1, by omega⟩) h hp
  refine ⟨⟨A, cap, zs⟩, rfl, ?_, hg, hl, hm, ?_⟩
  · rw [map_flat]; exact hr
  · rcases hd with ⟨_, rfl⟩ | ⟨el, sp, rfl, hl2⟩
    · simp
    · have := bulk_len el
      simp only [Rows.uptoBulk]
      omega
/-- a packet that came in is good -/
def PkG (W : World) (x : Pk) : Prop := (WfI x.id ∧ Byt x.p.zs) ∧ Row W W.heap.size x.p.A (x.p.zs.map (.int .u8)) ∧ x.p.zs.length ≤ x.p.cap ∧ x.p.cap ≤ maxLen ∧ (-9223372036854775808 ≤ x.kind ∧ x.kind ≤ 9223372036854775807) ∧ (-9223372036854775808 ≤ x.frm ∧ x.frm ≤ 9223372036854775807)
set_option maxRecDepth 100000 in
theorem open_packetC {H : Type} {enc : TypeId × Value → H} {W : World} {n : Nat} {cs : List Value} {y : DataW H × List MemPlace} (h : DataW.trod enc Try.prog W 0 (fun _ => true) true n 55 cs = some y) (hp : ∀ x ∈ y.2, x.block < W.heap.size) :
    ∃ x : Pk, cs = pkC x ∧ PkG W x ∧ x.p.zs.length ≤ Rows.uptoBulk y.1 := by
  obtain ⟨y0, y1, y2, y3, n', hy, hl, h0, h1, h2, h3⟩ := trod_struct4 Try.underlying55 h
  rw [show Try.prog.cellsOf 55 = 5 by kernel_rfl] at hl
  subst hy
  match cs, hl with
  | [c0, c1, c2, c3, c4], _ =>
    rw [show Try.prog.cellsOf 3 = 1 by kernel_rfl] at h0 h2
    rw [show Try.prog.cellsOf 53 = 2 by kernel_rfl] at h1
    rw [show Try.prog.cellsOf 38 = 1 by kernel_rfl] at h3
    obtain ⟨a, e0, _, wa⟩ := DataW.trod_int Try.underlying3 h0
    obtain ⟨x, ex, wx⟩ := open_idC h1
    obtain ⟨b, e2, _, wb⟩ := DataW.trod_int Try.underlying3 h2
    obtain ⟨p, ep, hr, hb, hl, hm, hk⟩ := open_bytesK h3 (fun z hz => hp z (List.mem_append.2 (.inr (List.mem_append.2 (.inr (List.mem_append.2 (.inr hz)))))))
    unfold idC at ex
    simp at e0 ex e2 ep
    obtain ⟨rfl, rfl⟩ := ex
    subst e0 e2 ep
    simp [Lit.wf, IntKind.min, IntKind.max, IntKind.signed, IntKind.bits] at wa wb
    refine ⟨⟨a, x, b, p⟩, rfl, ⟨⟨wx, hb⟩, hr, hl, hm, ⟨wa.1, by simp only; omega⟩, wb.1, by simp only; omega⟩, ?_⟩
    simp only [Rows.uptoBulk, Rows.uptoBulkAll]
    omega
set_option maxRecDepth 100000 in
theorem open_faultC {H : Type} {enc : TypeId × Value → H} {W : World} {n : Nat} {cs : List Value} {y : DataW H × List MemPlace} (h : DataW.trod enc Try.prog W 0 (fun _ => true) true n 93 cs = some y) :
    ∃ x : FtZ, cs = ftC x ∧ -9223372036854775808 ≤ x.at_ ∧ x.at_ ≤ 9223372036854775807 ∧ -9223372036854775808 ≤ x.by_ ∧ x.by_ ≤ 9223372036854775807 := by
  obtain ⟨y0, y1, y2, n', hy, hl, h0, h1, h2⟩ := trod_struct3 Try.underlying93 h
  rw [show Try.prog.cellsOf 93 = 3 by kernel_rfl] at hl
  subst hy
  match cs, hl with
  | [c0, c1, c2], _ =>
    rw [show Try.prog.cellsOf 3 = 1 by kernel_rfl] at h0 h1 h2
    obtain ⟨a, e0, _, wa⟩ := DataW.trod_int Try.underlying3 h0
    obtain ⟨b, e1, _, wb⟩ := DataW.trod_int Try.underlying3 h1
    obtain ⟨c, e2, _, wc⟩ := DataW.trod_int Try.underlying3 h2
    simp at e0 e1 e2
    subst e0 e1 e2
    simp [Lit.wf, IntKind.min, IntKind.max, IntKind.signed, IntKind.bits] at wa wb wc
    exact ⟨⟨a, b, c⟩, rfl, wb.1, by simp only; omega, wc.1, by simp only; omega⟩
end Go.Proofs.Ytpoiejgoongllaa
