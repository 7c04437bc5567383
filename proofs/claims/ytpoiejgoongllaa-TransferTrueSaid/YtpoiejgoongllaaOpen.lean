/-
  Arguments that came in as slices of structs, opened to cells: IDs, chunks.
-/
import Derived.Test.YtpoiejgoongllaaFrame
import Derived.Test.YtpoiejgoongllaaKnown25
import Derived.Deep.Slices
import Derived.ChangeSame
namespace Go.Proofs.Ytpoiejgoongllaa
set_option linter.unusedVariables false
set_option linter.unusedSimpArgs false
set_option linter.unnecessarySimpa false
open Go.ChangeShapes Go.WideShapes Go.ChangeAt Go.RowKit Go.Joins Go.Deep

theorem flatMap_len {α β : Type} {f : α → List β} {c : Nat} (hf : ∀ a, (f a).length = c) : ∀ l : List α, (l.flatMap f).length = l.length * c
  | [] => by simp
  | a :: l => by rw [List.flatMap_cons, List.length_append, hf, flatMap_len hf l, List.length_cons, Nat.add_mul]; omega
theorem flatMap_get {α β : Type} {f : α → List β} {c : Nat} (hf : ∀ a, (f a).length = c) : ∀ (l : List α) (i r : Nat) (hi : i < l.length), r < c → (l.flatMap f)[i * c + r]? = (f l[i])[r]?
  | a :: l, 0, r, _, hr => by
    rw [List.flatMap_cons, Nat.zero_mul, Nat.zero_add, List.getElem?_append_left (by rw [hf]; exact hr)]; rfl
  | a :: l, i + 1, r, hi, hr => by
    have hi' : i < l.length := by simpa using hi
    rw [List.flatMap_cons, List.getElem?_append_right (by rw [hf, Nat.add_mul]; omega), hf, show (i + 1) * c + r - c = i * c + r by rw [Nat.add_mul]; omega]
    exact flatMap_get hf l i r hi' hr

/-- a slice of elements whose cells are f of something good -/
theorem open_rows {H : Type} {enc : TypeId × Value → H} {P : Program} {W : World} {t e : TypeId} {α : Type} {f : α → List Value} {Good : α → Prop} {c fuel : Nat} {cs : List Value} {d : DataW H} {p : List MemPlace}
    (ht : P.underlying t = some (.slice e)) (hc : P.cellsOf e = c) (hc0 : 0 < c) (hf : ∀ a, (f a).length = c)
    (hel : ∀ n cs' y, DataW.trod enc P W 0 (fun _ => true) true n e cs' = some y → (∀ x ∈ y.2, x.block < W.heap.size) → ∃ a, cs' = f a ∧ Good a)
    (h : DataW.trod enc P W 0 (fun _ => true) true fuel t cs = some (d, p)) (hp : ∀ x ∈ p, x.block < W.heap.size) :
    ∃ (A : Option Addr) (cap : Nat) (l : List α), cs = [.slice A l.length cap] ∧ Row W W.heap.size A (l.flatMap f) ∧ (∀ a ∈ l, Good a) ∧ l.length ≤ cap ∧ cap ≤ maxLen ∧
      (d = .nil ∧ l = [] ∨ ∃ el sp, d = .slice el sp ∧ el.length = l.length) := by
  rcases open_slice ht h with ⟨hcs, hx⟩ | ⟨a, len, cap, m, n, D, Pl, hcs, _, hl, hm, hmm, hx, hi⟩
  · injection hx with hd
    exact ⟨none, 0, [], hcs, Row.nil, by simp, Nat.le_refl _, by unfold maxLen; omega, .inl ⟨hd, rfl⟩⟩
  · injection hx with hd hpl
    have hlm : len ≤ m := by rw [hmm]; split <;> omega
    have hch : ∀ i : Fin len, ∃ b : α, (∃ cs', W.cells? 0 (a.add (i * c)) c = some cs' ∧ cs' = f b) ∧ Good b := fun i => by
      obtain ⟨cs', h1, h2⟩ := hi i (by have := i.2; omega)
      rw [hc] at h1
      obtain ⟨b, hb, hg⟩ := hel n cs' _ h2 (fun x hx' => hp x (by
        rw [hpl]
        exact List.mem_append.2 (.inr (List.mem_flatMap.2 ⟨i, List.mem_range.2 (by have := i.2; omega), hx'⟩))))
      exact ⟨b, ⟨cs', h1, hb⟩, hg⟩
    let g : Fin len → α := fun i => Classical.choose (hch i)
    have hg : ∀ i : Fin len, (∃ cs', W.cells? 0 (a.add (i * c)) c = some cs' ∧ cs' = f (g i)) ∧ Good (g i) := fun i => Classical.choose_spec (hch i)
    have hll : (List.ofFn g).length = len := List.length_ofFn
    refine ⟨some a, cap, List.ofFn g, by rw [hll]; exact hcs, ?_, fun b hb => ?_, by rw [hll]; exact hl, hm, .inr ⟨_, _, hd, by rw [hll]; simp⟩⟩
    · rcases Nat.eq_zero_or_pos len with h0 | h0
      · left
        apply List.eq_nil_of_length_eq_zero
        rw [flatMap_len hf, hll, h0, Nat.zero_mul]
      · refine .inr ⟨a, rfl, ?_, fun j hj => ?_⟩
        · have hmc : 0 < m * P.cellsOf e := by rw [hc]; exact Nat.mul_pos (by omega) hc0
          have := hp (.cell a.block (a.off + 0)) (by rw [hpl]; exact List.mem_append.2 (.inl (by unfold MemPlace.row; exact List.mem_map.2 ⟨0, List.mem_range.2 hmc, rfl⟩)))
          exact this
        · rw [flatMap_len hf, hll] at hj
          have hi2 : j / c < len := (Nat.div_lt_iff_lt_mul hc0).2 hj
          have hr := Nat.mod_lt j hc0
          have hdm : j / c * c + j % c = j := by rw [Nat.mul_comm]; exact Nat.div_add_mod j c
          obtain ⟨⟨cs', h1, h2⟩, _⟩ := hg ⟨j / c, hi2⟩
          obtain ⟨_, _, hat⟩ := World.cells?_some h1
          have := hat (j % c) hr
          rw [Go.Deep.add_add] at this
          simp only at this
          rw [hdm] at this
          rw [this, h2]
          have hgt := flatMap_get hf (List.ofFn g) (j / c) (j % c) (by rw [hll]; exact hi2) hr
          rw [hdm] at hgt
          rw [hgt, List.getElem_ofFn]
    · obtain ⟨i, rfl⟩ := (List.mem_ofFn).1 hb
      exact (hg i).2

/-- .. by value -/
theorem open_rowsV {H : Type} {enc : TypeId × Value → H} {P : Program} {W : World} {r : Reach} {b0 : Nat} {t e : TypeId} {α : Type} {f : α → List Value} {Good : α → Prop} {c : Nat} {v : Value} {d : DataW H} {p : List MemPlace}
    (ht : P.underlying t = some (.slice e)) (hc : P.cellsOf e = c) (hc0 : 0 < c) (hf : ∀ a, (f a).length = c)
    (hel : ∀ n cs' y, DataW.trod enc P W 0 (fun _ => true) true n e cs' = some y → (∀ x ∈ y.2, x.block < W.heap.size) → ∃ a, cs' = f a ∧ Good a)
    (hv : Value.okWide P W r b0 t v) (h : DataW.Trod enc P W 0 (fun _ => true) true t v d p) (hp : ∀ x ∈ p, x.block < W.heap.size) :
    ∃ (A : Option Addr) (cap : Nat) (l : List α), v = .slice A l.length cap ∧ Row W W.heap.size A (l.flatMap f) ∧ (∀ a ∈ l, Good a) ∧ l.length ≤ cap ∧ cap ≤ maxLen ∧
      (d = .nil ∧ l = [] ∨ ∃ el sp, d = .slice el sp ∧ el.length = l.length) := by
  obtain ⟨a0, len, cap, rfl⟩ := okWide_slice ht hv
  obtain ⟨fuel, hf'⟩ := h
  obtain ⟨A, cap', l, hcs, rest⟩ := open_rows ht hc hc0 hf hel hf' hp
  simp [Value.cells] at hcs
  obtain ⟨rfl, rfl, rfl⟩ := hcs
  exact ⟨_, _, l, rfl, rest⟩

/-- its length is within the form's own reach -/
theorem reach_rows {H : Type} {P : Program} {ts : List TypeId} {ds : List (DataW H)} (hsz : (DataW.weightsEach P ts ds).all (· ≤ reachBytes) = true) {j : Nat} {t e : TypeId} {α : Type} {d : DataW H} {l : List α}
    (ht : ts[j]? = some t) (hd : ds[j]? = some d) (hu : P.underlying t = some (.slice e)) (h : d = .nil ∧ l = [] ∨ ∃ el sp, d = .slice el sp ∧ el.length = l.length) : l.length * P.bytesOf e ≤ reachBytes := by
  rcases h with ⟨_, rfl⟩ | ⟨el, sp, rfl, hl⟩
  · simp
  · have h1 := sized_slice hsz ht hd hu
    rw [Nat.add_mul, hl] at h1
    omega

set_option maxRecDepth 100000 in
theorem open_idC {H : Type} {enc : TypeId × Value → H} {W : World} {n : Nat} {cs : List Value} {y : DataW H × List MemPlace} (h : DataW.trod enc Try.prog W 0 (fun _ => true) true n 53 cs = some y) :
    ∃ x : IdZ, cs = idC x ∧ WfI x := by
  obtain ⟨y0, y1, n', _, hl, h0, h1⟩ := trod_struct2 Try.underlying53 h
  rw [show Try.prog.cellsOf 53 = 2 by kernel_rfl] at hl
  match cs, hl with
  | [c0, c1], _ =>
    rw [show Try.prog.cellsOf 51 = 1 by kernel_rfl] at h0
    rw [show Try.prog.cellsOf 3 = 1 by kernel_rfl] at h1
    obtain ⟨a, e0, _, wa⟩ := DataW.trod_int Try.underlying51 h0
    obtain ⟨b, e1, _, wb⟩ := DataW.trod_int Try.underlying3 h1
    simp at e0 e1
    subst e0 e1
    simp [Lit.wf, IntKind.min, IntKind.max, IntKind.signed, IntKind.bits] at wa wb
    exact ⟨(a, b), rfl, ⟨wa.1, by simp only; omega⟩, wb.1, by simp only; omega⟩
theorem map_flat : ∀ zs : List Int, zs.map (Value.int .u8) = zs.flatMap fun z => [Value.int .u8 z]
  | [] => rfl
  | z :: zs => by rw [List.map_cons, List.flatMap_cons, map_flat zs]; rfl
/-- a slice of bytes within a struct -/
theorem open_bytesC {H : Type} {enc : TypeId × Value → H} {W : World} {n : Nat} {cs : List Value} {y : DataW H × List MemPlace} (h : DataW.trod enc Try.prog W 0 (fun _ => true) true n 38 cs = some y) (hp : ∀ x ∈ y.2, x.block < W.heap.size) :
    ∃ p : Part, cs = [p.v] ∧ Row W W.heap.size p.A (p.zs.map (.int .u8)) ∧ Byt p.zs ∧ p.zs.length ≤ p.cap ∧ p.cap ≤ maxLen := by
  obtain ⟨d, pl⟩ := y
  obtain ⟨A, cap, zs, rfl, hr, hg, hl, hm, _⟩ := open_rows (f := fun z : Int => [Value.int .u8 z]) (Good := fun z => 0 ≤ z ∧ z ≤ 255) (c := 1) Try.underlying38 (by kernel_rfl) (by omega) (fun _ => rfl)
    (fun n cs' y h' _ => by
      obtain ⟨z, e, _, wz⟩ := DataW.trod_int Try.underlying5 h'
      simp [Lit.wf, IntKind.min, IntKind.max, IntKind.signed, IntKind.bits] at wz
      exact ⟨z, e, wz.1, by omega⟩) h hp
  refine ⟨⟨A, cap, zs⟩, rfl, ?_, hg, hl, hm⟩
  rw [map_flat]; exact hr
set_option maxRecDepth 100000 in
theorem open_chunkC {H : Type} {enc : TypeId × Value → H} {W : World} {n : Nat} {cs : List Value} {y : DataW H × List MemPlace} (h : DataW.trod enc Try.prog W 0 (fun _ => true) true n 64 cs = some y) (hp : ∀ x ∈ y.2, x.block < W.heap.size) :
    ∃ c : ChZ, cs = chC c ∧ WfI c.id ∧ Row W W.heap.size c.p.A (c.p.zs.map (.int .u8)) ∧ Byt c.p.zs ∧ c.p.zs.length ≤ c.p.cap ∧ c.p.cap ≤ maxLen := by
  obtain ⟨y0, y1, n', hy, hl, h0, h1⟩ := trod_struct2 Try.underlying64 h
  rw [show Try.prog.cellsOf 64 = 3 by kernel_rfl] at hl
  subst hy
  match cs, hl with
  | [c0, c1, c2], _ =>
    rw [show Try.prog.cellsOf 53 = 2 by kernel_rfl] at h0
    rw [show Try.prog.cellsOf 38 = 1 by kernel_rfl] at h1
    obtain ⟨x, ex, wx⟩ := open_idC h0
    obtain ⟨p, ep, hr, hb, hl, hm⟩ := open_bytesC h1 (fun z hz => hp z (List.mem_append.2 (.inr hz)))
    unfold idC at ex
    simp at ex ep
    obtain ⟨rfl, rfl⟩ := ex
    subst ep
    exact ⟨⟨x, p⟩, rfl, wx, hr, hb, hl, hm⟩

set_option maxRecDepth 100000 in
/-- a manifest by value, opened -/
theorem open_manifest {H : Type} {enc : TypeId × Value → H} {W : World} {r : Reach} {b0 : Nat} {v : Value} {d : DataW H} {p : List MemPlace}
    (hv : Value.okWide Try.prog W r b0 33 v) (h : DataW.Trod enc Try.prog W 0 (fun _ => true) true 33 v d p) (hp : ∀ x ∈ p, x.block < W.heap.size) :
    ∃ (n : Int) (A : Option Addr) (cap : Nat) (l : List IdZ), v = .agg #[.int .i64 n, .slice A l.length cap] ∧ Row W W.heap.size A (idsC l) ∧ (∀ x ∈ l, WfI x) ∧ l.length ≤ cap ∧ cap ≤ maxLen ∧ -9223372036854775808 ≤ n ∧ n ≤ 9223372036854775807 := by
  obtain ⟨c0, c1, y0, y1, m, rfl, rfl, rfl, hy0, hy1⟩ := open_agg2 Try.underlying33 (by kernel_rfl) (by kernel_rfl) hv h
  obtain ⟨a, e0, _, wa⟩ := DataW.trod_int Try.underlying3 hy0
  obtain ⟨d1, p1⟩ := y1
  obtain ⟨A, cap, l, e1, hr, hg, hl, hm, _⟩ := open_rows (f := idC) (Good := WfI) (c := 2) Try.underlying31 (by kernel_rfl) (by omega) (fun _ => rfl) (fun n cs' y h' _ => open_idC h') hy1 (fun x hx => hp x (List.mem_append.2 (.inr hx)))
  simp at e0 e1
  subst e0 e1
  simp [Lit.wf, IntKind.min, IntKind.max, IntKind.signed, IntKind.bits] at wa
  exact ⟨a, A, cap, l, rfl, hr, hg, hl, hm, wa.1, by omega⟩

end Go.Proofs.Ytpoiejgoongllaa
