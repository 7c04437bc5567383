/-
  Maps keyed by IDs: block b is a map that holds f, a partial function from IDs to values.
-/
import Derived.Test.YtnjhipnfhapngaaIdz
import Derived.Test.YtnjhipnfhapngaaRows
import Derived.Maps.OwnSet
import Derived.DeepKeys4
namespace Go.Proofs.Ytnjhipnfhapngaa
set_option linter.unusedVariables false
set_option linter.unusedSimpArgs false
set_option linter.unnecessarySimpa false
open Go.RowKit

/-- numbers that fit their kinds -/
def WfI (x : IdZ) : Prop := (0 ≤ x.1 ∧ x.1 < 18446744073709551616) ∧ (-9223372036854775808 ≤ x.2 ∧ x.2 ≤ 9223372036854775807)
theorem idKeyed : Go.Maps.Keyed Try.prog 51 := Go.Maps.Keyed.of_law (deep_law_laid (m := 3) (by kernel_rfl) (by decide) (of_decide_eq_true (by kernel_rfl)) (by kernel_rfl) (by kernel_rfl))
theorem id_key (x : IdZ) (h : WfI x) : ∃ l, keyOf Try.prog 51 (idV x) = some l := by
  obtain ⟨⟨a0, a1⟩, b0, b1⟩ := h
  obtain ⟨s, n⟩ := x
  have wa : (Lit.int .u64 s).wf = true := by simp [Lit.wf, IntKind.min, IntKind.max, IntKind.signed, IntKind.bits]; simp at a0 a1; omega
  have wb : (Lit.int .i64 n).wf = true := by simp [Lit.wf, IntKind.min, IntKind.max, IntKind.signed, IntKind.bits]; simp at b0 b1; omega
  refine ⟨.string (keyBytes [.int .u64 s, .int .i64 n]), ?_⟩
  have hkt : Program.keyType Try.prog 51 = true := by kernel_rfl
  have hsz : Try.prog.cellsOf 51 = 2 := by kernel_rfl
  have hts : ∃ m, Try.prog.types.size = m + 1 := ⟨Try.prog.types.size - 1, by kernel_rfl⟩
  obtain ⟨m, hm⟩ := hts
  unfold keyOf idV
  simp only [Try.underlying51]
  rw [if_pos (by simp [hkt, Value.formed, Try.underlying51, hsz]), hm]
  unfold Program.keyLits
  simp only [Try.underlying51, Value.cells]
  rw [if_pos ⟨by rw [hsz]; rfl, by decide +kernel⟩]
  have c0 : Try.prog.cellsOf 49 = 1 := by kernel_rfl
  have c1 : Try.prog.cellsOf 3 = 1 := by kernel_rfl
  simp [Program.keyLits, Try.underlying49, Try.underlying3, wa, wb, c0, c1]

theorem run_makeMap_n {t k e : TypeId} (ht : Try.prog.underlying t = some (.map k e)) (n : Int) (w : World) : (Instr.makeMap t (some (.int .i64 n))).run Try.prog w = .ok (.map (some w.heap.size)) (w.alloc (.map #[] 0)) := by
  simp [Instr.makeMap, run_underlying ht, asInt, asIntOf, Result.andThen]
/-- any value reads as itself -/
def mR (v : Value) : Option (DataW Value × List MemPlace) := some (.held v, [])
/-- block b is a map of at most n entries that holds f -/
def MapIs (w : World) (b n : Nat) (f : IdZ → Option Value) : Prop := ∃ D, w.ownsMap Try.prog 51 mR b n D ∧ Go.Maps.IsMap D ∧
  ∀ x l, keyOf Try.prog 51 (idV x) = some l → Go.Maps.has D l = (f x).isSome ∧ ∀ v, f x = some v → ∀ z, D.atKey l z = .held v
/-- f with v at x -/
def updM (f : IdZ → Option Value) (x : IdZ) (v : Value) : IdZ → Option Value := fun y => if y = x then some v else f y
def delM (f : IdZ → Option Value) (x : IdZ) : IdZ → Option Value := fun y => if y = x then none else f y
theorem idV_inj {x y : IdZ} (h : idV x = idV y) : x = y := by
  obtain ⟨a, b⟩ := x
  obtain ⟨c, d⟩ := y
  simp only [idV, Value.agg.injEq] at h
  have h0 := congrArg (fun l : Array Value => l[0]?) h
  have h1 := congrArg (fun l : Array Value => l[1]?) h
  simp at h0 h1
  rw [h0, h1]
section
variable {w w' : World} {b n : Nat} {f : IdZ → Option Value} {S : Nat → Prop}
theorem MapIs.lt (h : MapIs w b n f) : b < w.heap.size := by obtain ⟨D, hD, _⟩ := h; exact hD.lt
theorem MapIs.made (w : World) : MapIs (w.alloc (.map #[] 0)) w.heap.size 0 (fun _ => none) :=
  ⟨_, World.ownsMap_made w _ _ _, ⟨_, rfl⟩, fun x l _ => ⟨rfl, fun v h => by cases h⟩⟩
theorem MapIs.made' {w : World} {b : Nat} (h : b = w.heap.size) : MapIs (w.alloc (.map #[] 0)) b 0 (fun _ => none) := by subst h; exact MapIs.made w
theorem MapIs.ch (h : MapIs w b n f) (k : Ch S w w') (hb : ¬ S b) : MapIs w' b n f := by
  obtain ⟨D, hD, r⟩ := h
  have hl := hD.lt
  obtain ⟨es, clock, hh, r2⟩ := hD
  exact ⟨D, ⟨es, clock, (k.block b hl hb).trans hh, r2⟩, r⟩
theorem MapIs.of (h : MapIs w b n f) (k : Below w.heap.size w w') : MapIs w' b n f := h.ch (S := NoB) (Ch.of_below k) (fun h => h)
theorem MapIs.mono {n' : Nat} (h : MapIs w b n f) (hn : n ≤ n') : MapIs w b n' f := by obtain ⟨D, hD, r⟩ := h; exact ⟨D, hD.mono hn, r⟩
theorem MapIs.congr {g : IdZ → Option Value} (h : MapIs w b n f) (hg : ∀ x, f x = g x) : MapIs w b n g := by
  have : f = g := funext hg
  rwa [← this]
theorem MapIs.ne_blk {g : Nat} {t : TypeId} {cs : Array Value} (h : MapIs w b n f) (hB : Blk w g t cs) : b ≠ g := by
  rintro rfl
  obtain ⟨D, ⟨es, clock, hh, _⟩, _⟩ := h
  unfold Blk at hB
  rw [hh] at hB
  cases hB
theorem MapIs.ne_own {base : Nat} {e : TypeId} {size m : Nat} {v : Value} {xs : List Value} (h : MapIs w b n f) (ho : w.ownsRow base e size v m xs) : v.ownBlock ≠ some b := by
  rcases ho.2 with ⟨rfl, _⟩ | ⟨g, cap, cur, rfl, _, hh, _⟩
  · intro h; cases h
  · intro he
    have hg : g = b := by simpa [Value.ownBlock] using he
    subst hg
    obtain ⟨D, ⟨es, clock, hh2, _⟩, _⟩ := h
    rw [hh] at hh2
    cases hh2
theorem MapIs.ne_map {b' n' : Nat} {f' : IdZ → Option Value} (h : MapIs w b n f) (h' : MapIs w b' n' f') {x : IdZ} (wx : WfI x) (hne : (f x).isSome ≠ (f' x).isSome) : b ≠ b' := by
  rintro rfl
  obtain ⟨D, ⟨es, clock, hh, F, _, hD⟩, _, h1⟩ := h
  obtain ⟨D', ⟨es', clock', hh', F', _, hD'⟩, _, h1'⟩ := h'
  rw [hh] at hh'
  cases hh'
  rw [← hD'] at hD
  subst hD
  obtain ⟨l, hl⟩ := id_key x wx
  exact hne ((h1 x l hl).1.symm.trans (h1' x l hl).1)
/-- no block of bytes, nor any of cells -/
theorem MapIs.noBytes (h : MapIs w b n f) : ∀ cs fr (t : TypeId), w.heap[b]? ≠ some (.cells cs t fr) := by
  intro cs fr t hh
  obtain ⟨D, ⟨es, clock, hh2, _⟩, _⟩ := h
  rw [hh] at hh2
  cases hh2
variable {x : IdZ} {t e : TypeId} {z : Value}
theorem MapIs.look (h : MapIs w b n f) (wx : WfI x) (ht : Try.prog.underlying t = some (.map 51 e)) (hz : (zeroValue e).run Try.prog w = .ok z w) :
    (Instr.lookup t (.map (some b)) (.agg #[.int .u64 x.1, .int .i64 x.2]) true).run Try.prog w = .ok (.tuple #[(f x).getD z, .bool (f x).isSome]) w := by
  obtain ⟨D, hD, _, hf⟩ := h
  obtain ⟨l, hl⟩ := id_key x wx
  obtain ⟨v, ps, hrun, hv⟩ := hD.look_ok idKeyed ht hz (zd := .held z) (zp := []) rfl hl
  obtain ⟨h1, h2⟩ := hf x l hl
  have e1 : DataW.held v = D.atKey l (.held z) := by
    unfold mR at hv
    exact congrArg Prod.fst (Option.some.inj hv)
  have e2 : v = (f x).getD z := by
    cases hx : f x with
    | some u => rw [h2 u hx] at e1; exact DataW.held.inj e1
    | none =>
      rw [hx] at h1
      rw [Go.Maps.atKey_of_not_has h1] at e1
      exact DataW.held.inj e1
  rw [← e2, ← h1]
  exact hrun
theorem MapIs.get (h : MapIs w b n f) (wx : WfI x) (ht : Try.prog.underlying t = some (.map 51 e)) (hz : (zeroValue e).run Try.prog w = .ok z w) :
    (Instr.lookup t (.map (some b)) (.agg #[.int .u64 x.1, .int .i64 x.2]) false).run Try.prog w = .ok ((f x).getD z) w := by
  obtain ⟨D, hD, _, hf⟩ := h
  obtain ⟨l, hl⟩ := id_key x wx
  obtain ⟨v, ps, hrun, hv⟩ := hD.lookup idKeyed ht hz (zd := .held z) (zp := []) rfl hl
  obtain ⟨h1, h2⟩ := hf x l hl
  have e1 : DataW.held v = D.atKey l (.held z) := by
    unfold mR at hv
    exact congrArg Prod.fst (Option.some.inj hv)
  have e2 : v = (f x).getD z := by
    cases hx : f x with
    | some u => rw [h2 u hx] at e1; exact DataW.held.inj e1
    | none =>
      rw [hx] at h1
      rw [Go.Maps.atKey_of_not_has h1] at e1
      exact DataW.held.inj e1
  rw [← e2]
  exact hrun
theorem key_ne {x y : IdZ} {l l' : Lit} (h : keyOf Try.prog 51 (idV x) = some l) (h' : keyOf Try.prog 51 (idV y) = some l') (hne : y ≠ x) : l' ≠ l := by
  rintro rfl
  exact hne (idV_inj (idKeyed.inj h' h))
theorem MapIs.store (h : MapIs w b n f) (wx : WfI x) (ht : Try.prog.underlying t = some (.map 51 e)) (hn : n < maxLen) (u : Value) :
    ∃ w', (Instr.mapUpdate t (.map (some b)) (.agg #[.int .u64 x.1, .int .i64 x.2]) u).run Try.prog w = .ok () w' ∧ MapIs w' b (n + 1) (updM f x u) ∧ Ch (At b) w w' := by
  obtain ⟨D, hD, hM, hf⟩ := h
  obtain ⟨l, hl⟩ := id_key x wx
  obtain ⟨w', hrun, hD', hg⟩ := hD.update idKeyed ht hn (val := u) (d := .held u) (ps := []) hl rfl
  refine ⟨w', hrun, ⟨_, hD', hM.put _ _, fun y l' hl' => ?_⟩, Ch.of_grown hg⟩
  unfold updM
  by_cases hy : y = x
  · subst hy
    rw [hl] at hl'
    cases hl'
    rw [if_pos rfl]
    exact ⟨Go.Maps.has_put_same hM (idKeyed.key hl) _, fun v hv z => by rw [← Option.some.inj hv]; exact Go.Maps.atKey_put_same hM (idKeyed.key hl) _ _⟩
  · have hne := key_ne hl hl' hy
    rw [if_neg hy, Go.Maps.has_put_other hne]
    obtain ⟨h1, h2⟩ := hf y l' hl'
    exact ⟨h1, fun v hv z => by rw [Go.Maps.atKey_put_other hne]; exact h2 v hv z⟩
theorem MapIs.drop (h : MapIs w b n f) (wx : WfI x) (ht : Try.prog.underlying t = some (.map 51 e)) (ty : TypeId) :
    ∃ w', (Builtin.delete_ #[t, 51] ty #[.map (some b), .agg #[.int .u64 x.1, .int .i64 x.2]]).run Try.prog w = .ok (.tuple #[]) w' ∧ MapIs w' b n (delM f x) ∧ Ch (At b) w w' := by
  obtain ⟨D, hD, hM, hf⟩ := h
  obtain ⟨l, hl⟩ := id_key x wx
  obtain ⟨w', hrun, hD', hg⟩ := hD.drop idKeyed ht hl ty
  refine ⟨w', hrun, ⟨_, hD', hM.del _, fun y l' hl' => ?_⟩, Ch.of_grown hg.grown⟩
  unfold delM
  by_cases hy : y = x
  · subst hy
    rw [hl] at hl'
    cases hl'
    rw [if_pos rfl]
    exact ⟨Go.Maps.has_del_same, fun v hv => by cases hv⟩
  · have hne := key_ne hl hl' hy
    rw [if_neg hy, Go.Maps.has_del_other hne]
    obtain ⟨h1, h2⟩ := hf y l' hl'
    exact ⟨h1, fun v hv z => by rw [Go.Maps.atKey_del_other hne]; exact h2 v hv z⟩
/-- 'm[k] = v', for the walk -/
theorem wpList_store_id {ops : Array Oper} {rest : List Oper} {o : Oper} {a : Act} {Q : Exit → Act → World → Prop} (hg : o.guard = none) (m k v : Operand) (hop : o.op = Op.mapUpdate t m k v)
    (ht : Try.prog.underlying t = some (.map 51 e)) (hm : a.eval m = .map (some b)) (h : MapIs w b n f) (hn : n < maxLen) (x : IdZ) (hk : a.eval k = .agg #[.int .u64 x.1, .int .i64 x.2]) (wx : WfI x) {u : Value} (hv : a.eval v = u)
    (hK : ∀ w', MapIs w' b (n + 1) (updM f x u) → Ch (At b) w w' → wpList Try.prog ops Q rest (a.put o.dst undef) w') : wpList Try.prog ops Q (o :: rest) a w := by
  refine wpList_plain hg fun K' hK' => ?_
  obtain ⟨w', hrun, r1, r2⟩ := h.store wx ht hn u
  unfold Oper.wp
  simp [execOp, hop, hm, hk, hv, hrun, Result.andThen]
  exact hK' _ _ (hK w' r1 r2)
/-- 'delete(m, k)', for the walk -/
theorem wpList_drop_id {ops : Array Oper} {rest : List Oper} {o : Oper} {a : Act} {Q : Exit → Act → World → Prop} (hg : o.guard = none) (m k : Operand) (hop : o.op = Op.call { callee := Callee.builtin Builtin.delete, args := #[m, k], argTypes := #[t, 51] })
    (ht : Try.prog.underlying t = some (.map 51 e)) (hm : a.eval m = .map (some b)) (h : MapIs w b n f) (x : IdZ) (hk : a.eval k = .agg #[.int .u64 x.1, .int .i64 x.2]) (wx : WfI x)
    (hK : ∀ w', MapIs w' b n (delM f x) → Ch (At b) w w' → wpList Try.prog ops Q rest (a.put o.dst (.tuple #[])) w') : wpList Try.prog ops Q (o :: rest) a w := by
  refine wpList_plain hg fun K' hK' => ?_
  obtain ⟨w', hrun, r1, r2⟩ := h.drop wx ht o.type
  unfold Oper.wp
  simp [execOp, hop, resolve, invoke, builtin, hm, hk, hrun, Result.andThen]
  exact hK' _ _ (hK w' r1 r2)
end

end Go.Proofs.Ytnjhipnfhapngaa
