/-
  What every law's row asks behind its walk: true is returned, and nothing that was there before the call has turned.
-/
import Derived.Test.YtpoiejgoongllaaRows
import Derived.WalkKit
import Derived.ProofKit
import Derived.OpenShut
import Derived.JoinedCond
import Derived.Lib.SmallJoins
import Derived.SizedLaws
import Derived.Deep.CondSized
import Derived.Test.YtpoiejgoongllaaRegC
namespace Go.Proofs.Ytpoiejgoongllaa
set_option linter.unusedVariables false
set_option linter.unusedSimpArgs false
set_option linter.unnecessarySimpa false
open Go.ChangeShapes Go.WideShapes Go.ChangeAt Go.RowKit Go.Joins

theorem own : ownKnob Try.prog.godebug = none := by kernel_rfl
theorem laidOut : laidOutB Try.prog = true := by kernel_rfl

theorem trodAll_below {H : Type} {enc : TypeId × Value → H} {P : Program} {W W' : World} (hl : laidOutB P = true) (hb : Below W.heap.size W W') :
    ∀ {ts : List TypeId} {vs : List Value} {ds : List (DataW H)} {ps : List MemPlace}, (ts.all fun t => P.readableRec t && decide (t < P.types.size)) = true →
      DataW.TrodAll enc P W 0 (fun _ => true) true ts vs ds ps → (∀ x ∈ ps, x.block < W.heap.size) → DataW.TrodAll enc P W' 0 (fun b => decide (b < W.heap.size)) true ts vs ds ps
  | [], vs, ds, ps, _, h, _ => by
    obtain ⟨rfl, rfl, rfl⟩ := trodAll_nil h
    exact trodAll_mk0
  | t :: ts, vs, ds, ps, hr, h, hp => by
    obtain ⟨v, vs', d, ds', p, q, rfl, rfl, rfl, h0, h1⟩ := trodAll_cons h
    simp only [List.all_cons, Bool.and_eq_true, decide_eq_true_eq] at hr
    exact trodAll_cons_mk (Below.trod hl hr.1.1 hr.1.2 h0 hb (fun x hx => hp x (List.mem_append.2 (.inl hx))))
      (trodAll_below hl hb hr.2 h1 (fun x hx => hp x (List.mem_append.2 (.inr hx))))

/-- a law's post: true comes back, the arguments read as they did, nothing else has turned -/
theorem law_post {H : Type} {enc : TypeId × Value → H} {P : Program} {f : Func} {s : ChangeSpec} {W W' : World} {args : Array Value} {ds gs : List (DataW H)} {before : List MemPlace} {T : TypeId}
    (hl : laidOutB P = true) (hr : (f.params.toList.all fun t => P.readableRec t && decide (t < P.types.size)) = true)
    (hres : f.resultTypes = #[T]) (hT : P.underlying T = some .bool) (hvars : s.vars = [])
    (hW : DataW.Whole enc P f.params.toList s.vars false W args.toList ds gs before)
    (hs : s.fn H (ds ++ gs) = { results := [.lit (.bool true)], args := ds })
    (hb : Below W.heap.size W W') : s.post enc P f false true false false W args (.bool true) W' := by
  have hlt : ∀ p ∈ before, p.block < W.heap.size := fun p hp => hW.lt p hp
  have hW' := hW
  obtain ⟨p, q, hA, hV, rfl, _, _⟩ := hW'
  rw [hvars] at hV
  obtain ⟨rfl, rfl⟩ := trodVars_none hV
  refine ⟨ds, [], p ++ [], [], p, [], hW, ?_, ?_, ?_, World.keptBut_mono (fun x hx => ⟨hx, .inr (.inl (by simpa using hx))⟩) (hb.frame (· ∈ p ++ [])), fun h => by cases h⟩
  · rw [hs, hres]
    exact trodAll_mk1 (shut_bool hT _)
  · rw [hs]
    exact trodAll_below hl hb hr hA (fun x hx => hlt x (List.mem_append.2 (.inl hx)))
  · rw [hs, hvars]
    rfl

set_option maxRecDepth 100000 in
/-- a struct of two one-cell integers, by value, opened -/
theorem open_id {H : Type} {enc : TypeId × Value → H} {W : World} {base : Nat} {r : Reach} {b0 : Nat} {spare : Nat → Bool} {v : Value} {d : DataW H} {p : List MemPlace}
    (hv : Value.okWide Try.prog W r b0 53 v) (h : DataW.Trod enc Try.prog W base spare true 53 v d p) :
    ∃ s n : Int, v = .agg #[.int .u64 s, .int .i64 n] ∧ 0 ≤ s ∧ s < 18446744073709551616 ∧ -9223372036854775808 ≤ n ∧ n ≤ 9223372036854775807 := by
  obtain ⟨c0, c1, y0, y1, m, rfl, rfl, rfl, hy0, hy1⟩ := open_agg2 Try.underlying53 (by kernel_rfl) (by kernel_rfl) hv h
  obtain ⟨a, e0, rfl, wa⟩ := DataW.trod_int Try.underlying51 hy0
  obtain ⟨b, e1, rfl, wb⟩ := DataW.trod_int Try.underlying3 hy1
  simp at e0 e1
  subst e0 e1
  simp [Lit.wf, IntKind.min, IntKind.max, IntKind.signed, IntKind.bits] at wa wb
  exact ⟨a, b, rfl, wa.1, by omega, wb.1, by omega⟩


theorem open_i64 {H : Type} {enc : TypeId × Value → H} {P : Program} {W : World} {base : Nat} {r : Reach} {b0 : Nat} {spare : Nat → Bool} {t : TypeId} {v : Value} {d : DataW H} {p : List MemPlace} (ht : P.underlying t = some (.int .i64))
    (hv : Value.okWide P W r b0 t v) (h : DataW.Trod enc P W base spare true t v d p) : ∃ x : Int, v = .int .i64 x ∧ -9223372036854775808 ≤ x ∧ x ≤ 9223372036854775807 := by
  obtain ⟨x, rfl, rfl, rfl, wx⟩ := open_int ht hv h
  simp [Lit.wf, IntKind.min, IntKind.max, IntKind.signed, IntKind.bits] at wx
  exact ⟨x, rfl, wx.1, by omega⟩
theorem open_u64 {H : Type} {enc : TypeId × Value → H} {P : Program} {W : World} {base : Nat} {r : Reach} {b0 : Nat} {spare : Nat → Bool} {t : TypeId} {v : Value} {d : DataW H} {p : List MemPlace} (ht : P.underlying t = some (.int .u64))
    (hv : Value.okWide P W r b0 t v) (h : DataW.Trod enc P W base spare true t v d p) : ∃ x : Int, v = .int .u64 x ∧ 0 ≤ x ∧ x < 18446744073709551616 := by
  obtain ⟨x, rfl, rfl, rfl, wx⟩ := open_int ht hv h
  simp [Lit.wf, IntKind.min, IntKind.max, IntKind.signed, IntKind.bits] at wx
  exact ⟨x, rfl, wx.1, by omega⟩
theorem open_u8 {H : Type} {enc : TypeId × Value → H} {P : Program} {W : World} {base : Nat} {r : Reach} {b0 : Nat} {spare : Nat → Bool} {t : TypeId} {v : Value} {d : DataW H} {p : List MemPlace} (ht : P.underlying t = some (.int .u8))
    (hv : Value.okWide P W r b0 t v) (h : DataW.Trod enc P W base spare true t v d p) : ∃ x : Int, v = .int .u8 x ∧ 0 ≤ x ∧ x ≤ 255 := by
  obtain ⟨x, rfl, rfl, rfl, wx⟩ := open_int ht hv h
  simp [Lit.wf, IntKind.min, IntKind.max, IntKind.signed, IntKind.bits] at wx
  exact ⟨x, rfl, wx.1, by omega⟩

/-- a slice of integers that came in: where it lies, what it holds, and its datum -/
theorem open_row {H : Type} {enc : TypeId × Value → H} {P : Program} {W : World} {r : Reach} {b0 : Nat} {t e : TypeId} {k : IntKind} {v : Value} {d : DataW H} {p : List MemPlace}
    (ht : P.underlying t = some (.slice e)) (he : P.underlying e = some (.int k)) (hc : P.cellsOf e = 1) (hv : Value.okWide P W r b0 t v) (h : DataW.Trod enc P W 0 (fun _ => true) true t v d p) (hp : ∀ x ∈ p, x.block < W.heap.size) :
    ∃ (A : Option Addr) (cap : Nat) (zs : List Int), v = .slice A zs.length cap ∧ Row W W.heap.size A (zs.map (.int k)) ∧ (∀ z ∈ zs, (Lit.int k z).wf = true) ∧ zs.length ≤ cap ∧ cap ≤ maxLen ∧
      (d = .nil ∧ zs = [] ∨ ∃ sp, d = .slice (lits k zs) sp) := by
  obtain ⟨a0, len, cap, rfl⟩ := okWide_slice ht hv
  obtain ⟨fuel, hf⟩ := h
  rcases open_ints ht he hc hf with ⟨hcs, hx⟩ | ⟨a, len', cap', zs, hcs, _, hl, hm, hz, hx, hcell, hwz⟩
  · simp [Value.cells] at hcs
    obtain ⟨rfl, rfl, rfl⟩ := hcs
    injection hx with hd
    exact ⟨none, 0, [], rfl, Row.nil, by simp, Nat.le_refl _, by unfold maxLen; omega, .inl ⟨hd, rfl⟩⟩
  · simp [Value.cells] at hcs
    obtain ⟨rfl, rfl, rfl⟩ := hcs
    injection hx with hd hpl
    have hlen : (zs.take len).length = len := by rw [List.length_take]; simp at hz; omega
    refine ⟨some a, cap, zs.take len, by rw [hlen], ?_, fun z hz' => hwz z (List.mem_of_mem_take hz'), by rw [hlen]; exact hl, hm, .inr ⟨_, hd⟩⟩
    rcases Nat.eq_zero_or_pos len with h0 | h0
    · subst h0; left; simp
    · right
      have hzl : len ≤ zs.length := by simp at hz; omega
      refine ⟨a, rfl, ?_, fun j hj => ?_⟩
      · subst hpl
        have := hp (.cell a.block (a.off + 0)) (by unfold MemPlace.row; exact List.mem_map.2 ⟨0, List.mem_range.2 (by omega), rfl⟩)
        exact this
      · rw [List.length_map, hlen] at hj
        rw [hcell j (by omega), List.getElem?_map, List.getElem?_take, if_pos hj, List.getElem?_eq_getElem (by omega), List.getD_eq_getElem?_getD, List.getElem?_eq_getElem (by omega)]
        rfl

/-- its length is within the form's own reach -/
theorem reach_row {H : Type} {P : Program} {ts : List TypeId} {ds : List (DataW H)} (hsz : (DataW.weightsEach P ts ds).all (· ≤ reachBytes) = true) {j : Nat} {t e : TypeId} {k : IntKind} {d : DataW H} {zs : List Int}
    (ht : ts[j]? = some t) (hd : ds[j]? = some d) (hu : P.underlying t = some (.slice e)) (h : d = .nil ∧ zs = [] ∨ ∃ sp, d = .slice (lits k zs) sp) : zs.length * P.bytesOf e ≤ reachBytes := by
  rcases h with ⟨_, rfl⟩ | ⟨sp, rfl⟩
  · simp
  · have h1 := sized_slice hsz ht hd hu
    simp [lits] at h1
    rw [Nat.add_mul] at h1
    omega

end Go.Proofs.Ytpoiejgoongllaa
