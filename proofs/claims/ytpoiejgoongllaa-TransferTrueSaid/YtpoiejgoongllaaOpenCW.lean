/-
  Chunks that came in, opened to cells; the bytes of each within the form's own reach.
-/
import Derived.Test.YtpoiejgoongllaaOpen
import Derived.SizedLaws
namespace Go.Proofs.Ytpoiejgoongllaa
set_option linter.unusedVariables false
set_option linter.unusedSimpArgs false
set_option linter.unnecessarySimpa false
open Go.ChangeShapes Go.WideShapes Go.ChangeAt Go.RowKit Go.Joins Go.Deep

/-- a slice of elements whose cells are f of something good; K of each and of its reading -/
theorem open_rowsW {H : Type} {enc : TypeId × Value → H} {P : Program} {W : World} {r : Reach} {b0 : Nat} {t e : TypeId} {α : Type} {f : α → List Value} {Good : α → Prop} {K : DataW H → α → Prop} {c : Nat} {v : Value} {d : DataW H} {p : List MemPlace}
    (ht : P.underlying t = some (.slice e)) (hc : P.cellsOf e = c) (hc0 : 0 < c) (hf : ∀ a, (f a).length = c)
    (hel : ∀ n cs' y, DataW.trod enc P W 0 (fun _ => true) true n e cs' = some y → (∀ x ∈ y.2, x.block < W.heap.size) → ∃ a, cs' = f a ∧ Good a ∧ K y.1 a)
    (hv : Value.okWide P W r b0 t v) (h : DataW.Trod enc P W 0 (fun _ => true) true t v d p) (hp : ∀ x ∈ p, x.block < W.heap.size) :
    ∃ (A : Option Addr) (cap : Nat) (l : List α), v = .slice A l.length cap ∧ Row W W.heap.size A (l.flatMap f) ∧ (∀ a ∈ l, Good a) ∧ l.length ≤ cap ∧ cap ≤ maxLen ∧
      (d = .nil ∧ l = [] ∨ ∃ el sp, d = .slice el sp ∧ el.length = l.length ∧ ∀ a ∈ l, ∃ y ∈ el, K y a) := by
  obtain ⟨a0, len0, cap0, rfl⟩ := okWide_slice ht hv
  obtain ⟨fuel, hf'⟩ := h
  rcases open_slice ht hf' with ⟨hcs, hx⟩ | ⟨a, len, cap, m, n, D, Pl, hcs, _, hl, hm, hmm, hx, hi⟩
  · injection hx with hd
    simp [Value.cells] at hcs
    obtain ⟨rfl, rfl, rfl⟩ := hcs
    exact ⟨none, 0, [], rfl, Row.nil, by simp, Nat.le_refl _, by unfold maxLen; omega, .inl ⟨hd, rfl⟩⟩
  · injection hx with hd hpl
    simp [Value.cells] at hcs
    obtain ⟨rfl, rfl, rfl⟩ := hcs
    have hlm : len0 ≤ m := by rw [hmm]; split <;> omega
    have hch : ∀ i : Fin len0, ∃ b : α, (∃ cs', W.cells? 0 (a.add (i * c)) c = some cs' ∧ cs' = f b) ∧ Good b ∧ K (D i) b := fun i => by
      obtain ⟨cs', h1, h2⟩ := hi i (by have := i.2; omega)
      rw [hc] at h1
      obtain ⟨b, hb, hg, hk⟩ := hel n cs' _ h2 (fun x hx' => hp x (by
        rw [hpl]
        exact List.mem_append.2 (.inr (List.mem_flatMap.2 ⟨i, List.mem_range.2 (by have := i.2; omega), hx'⟩))))
      exact ⟨b, ⟨cs', h1, hb⟩, hg, hk⟩
    let g : Fin len0 → α := fun i => Classical.choose (hch i)
    have hg : ∀ i : Fin len0, (∃ cs', W.cells? 0 (a.add (i * c)) c = some cs' ∧ cs' = f (g i)) ∧ Good (g i) ∧ K (D i) (g i) := fun i => Classical.choose_spec (hch i)
    have hll : (List.ofFn g).length = len0 := List.length_ofFn
    refine ⟨some a, cap0, List.ofFn g, by rw [hll], ?_, fun b hb => ?_, by rw [hll]; exact hl, hm, .inr ⟨_, _, hd, by rw [hll]; simp, fun b hb => ?_⟩⟩
    · rcases Nat.eq_zero_or_pos len0 with h0 | h0
      · left
        apply List.eq_nil_of_length_eq_zero
        rw [flatMap_len hf, hll, h0, Nat.zero_mul]
      · refine .inr ⟨a, rfl, ?_, fun j hj => ?_⟩
        · have hmc : 0 < m * P.cellsOf e := by rw [hc]; exact Nat.mul_pos (by omega) hc0
          have := hp (.cell a.block (a.off + 0)) (by rw [hpl]; exact List.mem_append.2 (.inl (by unfold MemPlace.row; exact List.mem_map.2 ⟨0, List.mem_range.2 hmc, rfl⟩)))
          exact this
        · rw [flatMap_len hf, hll] at hj
          have hi2 : j / c < len0 := (Nat.div_lt_iff_lt_mul hc0).2 hj
          have hr := Nat.mod_lt j hc0
          have hdm : j / c * c + j % c = j := by rw [Nat.mul_comm]; exact Nat.div_add_mod j c
          obtain ⟨⟨cs', h1, h2⟩, _⟩ := hg ⟨j / c, hi2⟩
          obtain ⟨_, _, hat⟩ := World.cells?_some h1
          have := hat (j % c) hr
          rw [Go.Deep.add_add] at this
          simp only at this
          rw [hdm] at this
          rw [this, h2]
          have hgt := flatMap_get hf (List.ofFn g) (j / c) (j % c) (by rw [hll]; exact hi2) hr
          rw [hdm] at hgt
          rw [hgt, List.getElem_ofFn]
    · obtain ⟨i, rfl⟩ := (List.mem_ofFn).1 hb
      exact (hg i).2.1
    · obtain ⟨i, rfl⟩ := (List.mem_ofFn).1 hb
      exact ⟨D i, List.mem_map.2 ⟨i, List.mem_range.2 i.2, rfl⟩, (hg i).2.2⟩
/-- the bytes of a chunk weigh in -/
def ChW {H : Type} (y : DataW H) (c : ChZ) : Prop := c.p.zs = [] ∨ ∃ m ∈ y.weights Try.prog 64, c.p.zs.length ≤ m
set_option maxRecDepth 100000 in
theorem open_chunkW {H : Type} {enc : TypeId × Value → H} {W : World} {n : Nat} {cs : List Value} {y : DataW H × List MemPlace} (h : DataW.trod enc Try.prog W 0 (fun _ => true) true n 64 cs = some y) (hp : ∀ x ∈ y.2, x.block < W.heap.size) :
    ∃ c : ChZ, cs = chC c ∧ (WfI c.id ∧ Row W W.heap.size c.p.A (c.p.zs.map (.int .u8)) ∧ Byt c.p.zs ∧ c.p.zs.length ≤ c.p.cap ∧ c.p.cap ≤ maxLen) ∧ ChW y.1 c := by
  obtain ⟨y0, y1, n', hy, hl, h0, h1⟩ := trod_struct2 Try.underlying64 h
  rw [show Try.prog.cellsOf 64 = 3 by kernel_rfl] at hl
  subst hy
  match cs, hl with
  | [c0, c1, c2], _ =>
    rw [show Try.prog.cellsOf 53 = 2 by kernel_rfl] at h0
    rw [show Try.prog.cellsOf 38 = 1 by kernel_rfl] at h1
    obtain ⟨x, ex, wx⟩ := open_idC h0
    obtain ⟨d1, p1⟩ := y1
    obtain ⟨A, cap, zs, ep, hr, hg, hl, hm, hd⟩ := open_rows (f := fun z : Int => [Value.int .u8 z]) (Good := fun z => 0 ≤ z ∧ z ≤ 255) (c := 1) Try.underlying38 (by kernel_rfl) (by omega) (fun _ => rfl)
      (fun n cs' y h' _ => by
        obtain ⟨z, e, _, wz⟩ := DataW.trod_int Try.underlying5 h'
        simp [Lit.wf, IntKind.min, IntKind.max, IntKind.signed, IntKind.bits] at wz
        exact ⟨z, e, wz.1, by omega⟩) h1 (fun z hz => hp z (List.mem_append.2 (.inr hz)))
    unfold idC at ex
    simp at ex ep
    obtain ⟨rfl, rfl⟩ := ex
    subst ep
    refine ⟨⟨x, A, cap, zs⟩, rfl, ⟨wx, by rw [map_flat]; exact hr, hg, hl, hm⟩, ?_⟩
    rcases hd with ⟨_, rfl⟩ | ⟨el, sp, rfl, hel⟩
    · exact .inl rfl
    · refine .inr ⟨(el.length + sp.length) * Try.prog.bytesOf 5, ?_, ?_⟩
      · simp only [DataW.weights, Try.underlying64]
        exact DataW.weights_mem_each (j := 1) (t := 38) (by rfl) (by rfl) _ (by simp [DataW.weights, Try.underlying38])
      · rw [show Try.prog.bytesOf 5 = 1 by kernel_rfl]
        simp only
        omega
theorem wAll_in {H : Type} {P : Program} {e : TypeId} {l : List (DataW H)} {d : DataW H} (h : d ∈ l) {n : Nat} (hn : n ∈ d.weights P e) : n ∈ DataW.weightsAll P e l := by
  induction l with
  | nil => cases h
  | cons a l ih =>
    simp only [DataW.weightsAll, List.mem_append]
    rcases List.mem_cons.1 h with h | h
    · subst h; exact .inl hn
    · exact .inr (ih h)
/-- .. within the form's own reach -/
theorem reach_chunkW {H : Type} {ts : List TypeId} {ds : List (DataW H)} (hsz : (DataW.weightsEach Try.prog ts ds).all (· ≤ reachBytes) = true) {j : Nat} {d : DataW H} {l : List ChZ}
    (ht : ts[j]? = some 29) (hd : ds[j]? = some d) (h : d = .nil ∧ l = [] ∨ ∃ el sp, d = .slice el sp ∧ el.length = l.length ∧ ∀ a ∈ l, ∃ y ∈ el, ChW y a) : ∀ c ∈ l, c.p.zs.length ≤ 140737488351232 := fun c hc => by
  rcases h with ⟨_, rfl⟩ | ⟨el, sp, rfl, _, hl⟩
  · cases hc
  · obtain ⟨y, hy, hw⟩ := hl c hc
    rcases hw with e | ⟨m, hm, hle⟩
    · rw [e]; simp
    · have h1 : m ≤ reachBytes := of_decide_eq_true (List.all_eq_true.1 hsz _ (DataW.weights_mem_each ht hd _ (by
        simp only [DataW.weights, Try.underlying29, List.mem_cons, List.mem_append]
        exact Or.inr (Or.inl (wAll_in hy hm)))))
      unfold reachBytes at h1
      omega
end Go.Proofs.Ytpoiejgoongllaa
